import Derived.Test.YtmedmmginnfjgaaLaw
import Derived.Test.YtmedmmginnfjgaaZ3
import Derived.Lib.SmallJoins
namespace Go.W
open Go.ChangeShapes Go.WideShapes Go.ChangeAt Go.RowKit
section
variable {H : Type} {enc : TypeId × Value → H} {P : Program} {W W' : World}
theorem sl_of_cells {k : IntKind} {a : Option Addr} {L C : Nat} {Z : List Int} (hl : L ≤ C) (hz : Z.length = C) (hn : a = none → C = 0) (hc : ∀ a', a = some a' → ∀ c, c < C → W.cell? (a'.add c) = some (.int k (Z.getD c 0))) :
    Sl W a ((Z.take L).map (Value.int k)) ∧ (Z.take L).length = L := by
  have hlen : (Z.take L).length = L := by simp; omega
  refine ⟨⟨fun hne => ?_, fun j hj => ?_⟩, hlen⟩
  · have h0 : 0 < L := by
      rcases Nat.eq_zero_or_pos L with h | h
      · subst h; simp at hne
      · exact h
    cases a with
    | none => have := hn rfl; omega
    | some a =>
      obtain ⟨b, off, spot⟩ := a
      have hspot : spot = none := by simpa [Addr.add] using World.cell?_spot (hc _ rfl 0 (by omega))
      subst hspot
      exact ⟨b, off, rfl⟩
  · simp only [List.length_map, hlen] at hj
    cases a with
    | none => have := hn rfl; omega
    | some a =>
      obtain ⟨b, off, spot⟩ := a
      have hspot : spot = none := by simpa [Addr.add] using World.cell?_spot (hc _ rfl 0 (by omega))
      subst hspot
      have := hc _ rfl j (by omega)
      have e : (⟨b, off, none⟩ : Addr).add j = ⟨b, off + j, none⟩ := by unfold Addr.add; split <;> simp_all
      rw [e] at this
      simp only [elt]
      rw [this]
      simp [List.getD_eq_getElem?_getD, hj, show j < Z.length by omega]
/-- a slice of slices of numbers -/
theorem open_rowsT {t e q : TypeId} {k : IntKind} {fuel : Nat} {v : Value} {x : DataW H × List MemPlace} (ht : P.underlying t = some (.slice e)) (he : P.underlying e = some (.slice q)) (hq : P.underlying q = some (.int k))
    (ce : P.cellsOf e = 1) (cq : P.cellsOf q = 1) (h : DataW.trod enc P W 0 (fun _ => true) true fuel t [v] = some x) :
    ∃ (a : Option Addr) (sds : List SD) (xss : List (List Int)) (c : Nat), v = .slice a xss.length c ∧ Lists W k a sds xss ∧ xss.length ≤ 9223372036854775807 ∧ (∀ i, (xss.getD i []).length ≤ 9223372036854775807) ∧ ∀ i, ∀ x ∈ xss.getD i [], (Lit.int k x).wf = true := by
  rcases Go.Deep.open_int_rows ht he hq ce cq h with ⟨hcs, hx⟩ | ⟨a, len, cap, A, L, C, Z, hcs, _, hl, hm, hx, hr⟩
  · simp only [List.cons.injEq, and_true] at hcs
    subst hcs
    exact ⟨none, [], [], 0, rfl, Lists.nil _ _ _, by simp, by simp, by simp⟩
  · simp only [List.cons.injEq, and_true] at hcs
    subst hcs
    unfold maxLen at hm
    have hrow : ∀ r, r < len → Sl W (A r) (((Z r).take (L r)).map (Value.int k)) ∧ ((Z r).take (L r)).length = L r := fun r hrl => by
      obtain ⟨_, h2, h3, h4, h5, h6, h7⟩ := hr r (by omega)
      exact sl_of_cells h2 h4 h6 (fun a' e => (h7 a' e).2)
    refine ⟨some a, (List.range len).map fun r => ⟨A r, L r, C r⟩, (List.range len).map fun r => (Z r).take (L r), cap, by simp, ⟨⟨fun hne => ?_, fun j hj => ?_⟩, by simp, fun i hi => ?_⟩, by simp; omega, fun i => ?_, fun i x hxm => ?_⟩
    · have h0 : 0 < len := by
        rcases Nat.eq_zero_or_pos len with h | h
        · subst h; simp at hne
        · exact h
      obtain ⟨b, off, spot⟩ := a
      have hspot : spot = none := by simpa [Addr.add] using World.cell?_spot (hr 0 (by omega)).1
      subst hspot
      exact ⟨b, off, rfl⟩
    · simp only [List.length_map, List.length_range] at hj
      obtain ⟨b, off, spot⟩ := a
      have hspot : spot = none := by simpa [Addr.add] using World.cell?_spot (hr 0 (by omega)).1
      subst hspot
      have := (hr j (by omega)).1
      have e : (⟨b, off, none⟩ : Addr).add j = ⟨b, off + j, none⟩ := by unfold Addr.add; split <;> simp_all
      rw [e] at this
      simp only [elt]
      rw [this]
      simp [List.getD_eq_getElem?_getD, hj, SD.val]
    · simp only [List.length_map, List.length_range] at hi
      have := hrow i hi
      simp only [List.getD_eq_getElem?_getD, List.getElem?_map, List.getElem?_range hi, Option.map_some, Option.getD_some]
      exact ⟨this.1, this.2.symm⟩
    · by_cases hi : i < len
      · have := (hrow i hi).2
        obtain ⟨_, h2, h3, _⟩ := hr i (by omega)
        unfold maxLen at h3
        simp only [List.getD_eq_getElem?_getD, List.getElem?_map, List.getElem?_range hi, Option.map_some, Option.getD_some]
        omega
      · simp [List.getD_eq_getElem?_getD, List.getElem?_map, hi]
    · by_cases hi : i < len
      · obtain ⟨_, _, _, _, h5, _⟩ := hr i (by omega)
        simp only [List.getD_eq_getElem?_getD, List.getElem?_map, List.getElem?_range hi, Option.map_some, Option.getD_some] at hxm
        exact h5 x (List.mem_of_mem_take hxm)
      · simp [List.getD_eq_getElem?_getD, List.getElem?_map, hi] at hxm
theorem open_rows {t e q : TypeId} {k : IntKind} {v : Value} {d : DataW H} {ps : List MemPlace} {r : Reach} {b0 : Nat} (ht : P.underlying t = some (.slice e)) (he : P.underlying e = some (.slice q)) (hq : P.underlying q = some (.int k))
    (ce : P.cellsOf e = 1) (cq : P.cellsOf q = 1) (hval : Value.okWide P W r b0 t v) (h : DataW.Trod enc P W 0 (fun _ => true) true t v d ps) :
    ∃ (a : Option Addr) (sds : List SD) (xss : List (List Int)) (c : Nat), v = .slice a xss.length c ∧ Lists W k a sds xss ∧ xss.length ≤ 9223372036854775807 ∧ (∀ i, (xss.getD i []).length ≤ 9223372036854775807) ∧ ∀ i, ∀ x ∈ xss.getD i [], (Lit.int k x).wf = true := by
  obtain ⟨a0, len, cap, rfl⟩ := okWide_slice ht hval
  obtain ⟨fuel, hf⟩ := h
  exact open_rowsT ht he hq ce cq hf
end
end Go.W
namespace Go.Proofs.Ytmedmmginnfjgaa
open Go.W Go.ChangeShapes Go.WideShapes Go.ChangeAt Go.RowKit
set_option maxRecDepth 100000 in
theorem open_perms {H : Type} {enc : TypeId × Value → H} {W : World} {v : Value} {d : DataW H} {ps : List MemPlace} {r : Reach} {b0 : Nat} (hval : Value.okWide Try.prog W r b0 49 v) (h : DataW.Trod enc Try.prog W 0 (fun _ => true) true 49 v d ps) :
    ∃ (n : Int) (a : Option Addr) (sds : List SD) (Ls : List (List Int)) (c : Nat) (few : Bool), v = .agg (permsL n a Ls.length c few).toArray ∧ (0 ≤ n ∧ n ≤ 255) ∧ Lists W .i8 a sds Ls ∧ (∀ i, I8 (Ls.getD i [])) ∧ Ls.length ≤ 9223372036854775807 := by
  obtain ⟨f0, f1, f2, hs, h0, h1, h2⟩ : ∃ f0 f1 f2, Try.prog.underlying 49 = some (.struct #[f0, f1, f2]) ∧ f0.type = 5 ∧ f1.type = 47 ∧ f2.type = 4 :=
    ⟨(Try.prog.fieldsOf 49)[0]!, (Try.prog.fieldsOf 49)[1]!, (Try.prog.fieldsOf 49)[2]!, by kernel_rfl, by kernel_rfl, by kernel_rfl, by kernel_rfl⟩
  have hone : Deep.oneCellFields Try.prog #[f0, f1, f2] = true := by
    have e : Try.prog.underlying 49 = some (.struct (Try.prog.fieldsOf 49)) := by kernel_rfl
    rw [hs] at e
    simp only [Option.some.injEq, TypeDesc.struct.injEq] at e
    have hk : Deep.oneCellFields Try.prog (Try.prog.fieldsOf 49) = true := by kernel_rfl
    rw [e]; exact hk
  obtain ⟨c0, c1, c2, y0, y1, y2, m, rfl, rfl, rfl, q0, q1, q2⟩ := Joins.open_agg3 hs hone (by kernel_rfl) hval h
  rw [h0] at q0
  rw [h1] at q1
  rw [h2] at q2
  obtain ⟨n, hn, _, hw⟩ := DataW.trod_int (k := .u8) (by kernel_rfl) q0
  obtain ⟨a, sds, Ls, c, rfl, hL, hl, hle, hwf⟩ := open_rowsT (e := 23) (q := 111) (k := .i8) (by kernel_rfl) (by kernel_rfl) (by kernel_rfl) (by kernel_rfl) (by kernel_rfl) q1
  obtain ⟨few, hb, _⟩ := DataW.trod_bool (by kernel_rfl) q2
  simp only [List.cons.injEq, and_true] at hn hb
  subst hn; subst hb
  exact ⟨n, a, sds, Ls, c, few, rfl, wf_u8 hw, hL, fun i => ⟨hle i, fun x hx => wf_i8 (hwf i x hx)⟩, hl⟩
end Go.Proofs.Ytmedmmginnfjgaa
