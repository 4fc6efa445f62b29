
import Derived.Test.YthhfjagnmhhapaaA01
import Derived.Test.YthhfjagnmhhapaaA02
import Derived.Test.YthhfjagnmhhapaaA03
import Derived.Test.YthhfjagnmhhapaaA04
import Derived.Test.YthhfjagnmhhapaaA05
import Derived.Test.YthhfjagnmhhapaaA06
import Derived.Test.YthhfjagnmhhapaaA07
import Derived.Test.YthhfjagnmhhapaaA08
import Derived.Test.YthhfjagnmhhapaaA09
import Derived.Test.YthhfjagnmhhapaaA10
import Derived.Test.YthhfjagnmhhapaaA11

namespace Go.W
def rowsV (rows : List (List Nat)) : List Value := rows.flatMap fun ws => ws.map fun (n : Nat) => Value.int .u64 n
theorem rowsV_len : ∀ {rows : List (List Nat)}, (∀ r ∈ rows, r.length = 4) → (rowsV rows).length = rows.length * 4
  | [], _ => rfl
  | r :: rows, h => by
    have := rowsV_len (rows := rows) fun x hx => h x (by simp [hx])
    have h1 := h r (by simp)
    simp only [rowsV, List.flatMap_cons, List.length_append, List.length_map, List.length_cons] at *
    omega
theorem rowsV_get : ∀ {rows : List (List Nat)} {i j : Nat}, (∀ r ∈ rows, r.length = 4) → i < rows.length → j < 4 → (rowsV rows)[i * 4 + j]? = some (.int .u64 (((rows.getD i []).getD j 0 : Nat) : Int))
  | [], _, _, _, h, _ => absurd h (by simp)
  | r :: rows, 0, j, h, _, hj => by
    have h1 := h r (by simp)
    simp only [rowsV, List.flatMap_cons, Nat.zero_mul, Nat.zero_add, List.getD_cons_zero]
    rw [List.getElem?_append_left (by simp; omega), List.getElem?_map, List.getD_eq_getElem?_getD, List.getElem?_eq_getElem (by omega)]; rfl
  | r :: rows, i + 1, j, h, hi, hj => by
    have h1 := h r (by simp)
    have ih := rowsV_get (rows := rows) (i := i) (j := j) (fun x hx => h x (by simp [hx])) (by simpa using hi) hj
    simp only [rowsV, List.flatMap_cons, List.getD_cons_succ] at *
    rw [List.getElem?_append_right (by simp; omega), List.length_map, h1, show (i + 1) * 4 + j - 4 = i * 4 + j by omega]
    exact ih
section
variable {P : Program} {S : World → Prop} {ops : List Oper} {K : Env → World → Prop} {rest : List (Oper × Option Bool)} {ρ : Env} {w : World} {b : Option Bool} {kf : Bool} {d : Nat} {dst : Option Nat} {T T' : TypeId} {pos : String} {af : Array Edge}
theorem k_index4 {x ix : Operand} {a : Option Addr} {l c E y j : Nat} {k : IntKind} [hT : Slc P T' E 4 y] (hx : ev ρ x = .slice a l c) (hi : ev ρ ix = .int k (j : Int)) (ha : W.plain a)
    (h2 : j < l) (h : RR P S ops K rest (upd ρ d (.pointer (some (elt a (j * 4))))) w) :
    RR P S ops K ((⟨some d, .indexAddr T' x ix, T, pos, af, none⟩, b) :: rest) ρ w :=
  k_indexAddr hx hi ha (by omega) (by omega) (by simpa using h)
theorem k_load4 {x : Operand} {T1 : TypeId} {a : Option Addr} {j : Nat} {rows : List (List Nat)} [Agg P T1 4] (hx : ev ρ x = .pointer (some (elt a (j * 4)))) (hp : W.plain a) (hs : Rd b S w fun w' => Sl w' a (rowsV rows)) (hall : ∀ r ∈ rows, r.length = 4) (hj : j < rows.length)
    (h : RR P S ops K rest (upd ρ d (.agg ((rows.getD j []).map fun (n : Nat) => Value.int .u64 n).toArray)) w) : RR P S ops K ((⟨some d, .load T1 x, T, pos, af, none⟩, b) :: rest) ρ w := by
  obtain ⟨g, o, rfl⟩ := hp
  have hr : (rows.getD j []).length = 4 := by
    rw [List.getD_eq_getElem?_getD, List.getElem?_eq_getElem hj]; exact hall _ (List.getElem_mem hj)
  refine k_loadA (g := g) (o := o + j * 4) (by rw [hx]; rfl) (by rw [List.length_map, hr]) (hs.imp fun w' hs => ?_) h
  intro i hi
  rw [List.length_map, hr] at hi
  have hg := rowsV_get (j := i) hall hj hi
  have := hs.get (j * 4 + i) (by rw [rowsV_len hall]; omega)
  simp only [elt] at this
  rw [show o + j * 4 + i = o + (j * 4 + i) by omega, this, List.getD_eq_getElem?_getD, hg]
  generalize rows.getD j [] = ws at hr
  have hi' : i < ws.length := by omega
  simp [List.getD_eq_getElem?_getD, List.getElem?_eq_getElem hi']
end
end Go.W
namespace Go.Proofs.Ythhfjagnmhhapaa
open Go.W Go.PM
theorem mapT2 : Try.prog.underlying 197 = some (.map 3 191) := by kernel_rfl
abbrev basL (B : List (Nat × List Nat)) : List (Int × Value) := B.map fun b => ((b.1 : Int), .agg (wordsL b.2).toArray)
structure BasOK (B : List (Nat × List Nat)) : Prop where
  w4 : ∀ b ∈ B, W4 b.2
  lead : ∀ b ∈ B, Lead (bitsW b.2) b.1
  ech : Ech (B.map fun b => bitsW b.2)
theorem basOK_nil : BasOK [] := ⟨by simp, by simp, ech_nil⟩
theorem BasOK.add {B : List (Nat × List Nat)} (h : BasOK B) {i : Nat} {ws : List Nat} (hw : W4 ws) (hl : Lead (bitsW ws) i) (hn : ∀ b ∈ B, b.1 ≠ i) : BasOK (B ++ [(i, ws)]) := by
  refine ⟨fun b hb => ?_, fun b hb => ?_, ?_⟩
  · rcases List.mem_append.1 hb with hb | hb
    · exact h.w4 b hb
    · rw [List.mem_singleton] at hb; subst hb; exact hw
  · rcases List.mem_append.1 hb with hb | hb
    · exact h.lead b hb
    · rw [List.mem_singleton] at hb; subst hb; exact hl
  · refine (h.ech.cons hl fun b' hb' hl' => ?_).congr fun b => ?_
    · obtain ⟨b, hb, rfl⟩ := List.mem_map.1 hb'
      exact hn b hb ((h.lead b hb).unique hl')
    · simp only [List.mem_cons, List.map_append, List.mem_append, List.map_cons, List.map_nil, List.not_mem_nil, or_false]
      exact Or.comm
abbrev bvs (B : List (Nat × List Nat)) : List (Nat → Bool) := B.map fun b => bitsW b.2
theorem rank_spec {rows : List (List Nat)} {a : Option Addr} {cap : Nat} {w : World} (hr : Sl w a (rowsV rows)) (h4 : ∀ r ∈ rows, W4 r) (hl : rows.length ≤ 1000000000000) :
    CallsR Try.prog 149 #[.slice a rows.length cap] w fun v w' => Ex w w' ∧ ∃ B, v = .int .i64 ((B.length : Nat) : Int) ∧ BasOK B ∧ B.length ≤ rows.length ∧ ∀ r ∈ rows, Sp (bvs B) (bitsW r) := by
  refine callsR_of (args := [_]) Try.func149 rfl rfl ?_
  have hall : ∀ r ∈ rows, r.length = 4 := fun r hr => (h4 r hr).1
  repeat' (first | (refine k_makeMap (fun mb w1 hE1 hmb hm1 => ⟨fun _ _ => trivial, ?_⟩)) | (refine k_pure rfl ?_) | (refine then_normal ?_) | (refine cw_seq ?_) | (refine cw_region rfl ?_) | (refine rr_nil ?_) | (refine k_len rfl ?_) | (refine cw_block ?_))
  refine cw_loop (ι := Nat × List (Nat × List Nat)) [3, 6, 7, 8, 9, 13, 14, 15, 16, 17, 18, 19, 20, 21, 22, 23, 24, 25, 26, 27, 28, 29, 30, 31, 32, 33, 34, 35, 36, 37] (fun s => [(13, .int .i64 (s.1 : Int)), (3, .int .i64 (s.2.length : Int))]) (fun s w' => s.1 ≤ rows.length ∧ s.2.length ≤ s.1 ∧ Ex w w' ∧ MapAt w' mb (basL s.2) ∧ BasOK s.2 ∧ ∀ i, i < s.1 → Sp (bvs s.2) (bitsW (rows.getD i []))) (fun s => rows.length - s.1)
    (0, []) ⟨rfl, rfl, trivial⟩ ⟨Nat.zero_le _, Nat.le_refl _, hE1, hm1, basOK_nil, fun i hi => absurd hi (by simp)⟩ ?_
  rintro ⟨r, B⟩ ξ w2 ⟨hrl, hBl, hE2, hm2, hB, hsp⟩
  simp only at hrl hBl hm2 hB hsp
  show CW _ _ _ _ (over [(13, .int .i64 (r : Int)), (3, .int .i64 (B.length : Int))] _) w2
  have hr2 := hr.ext hE2
  repeat' (first | (refine k_index4 (j := r) rfl rfl (hr2.plain (by rw [rowsV_len hall]; omega)) (by omega) ?_) | (refine k_load4 (j := r) rfl (hr2.plain (by rw [rowsV_len hall]; omega)) hr2 hall (by omega) ?_) | (refine k_allocA (vs := wordsL [0, 0, 0, 0]) (fun gr w3 hn3 => ⟨fun _ _ => trivial, ?_⟩)) | (refine k_storeV (vs := wordsL (rows.getD r [])) rfl rfl (by rw [List.length_map]; exact hall _ (getD_mem (by omega))) (all_one (fun _ => rfl) _) hn3.blk rfl (fun w4 hc4 hb4 => ⟨fun _ _ => trivial, ?_⟩)) | (refine k_pure rfl ?_) | (refine then_normal ?_) | (refine cw_seq ?_) | (refine cw_region rfl ?_) | (refine rr_nil ?_) | (refine cw_cond_dec rfl (fun hc => ?_) (fun hc => ?_)) | (refine cw_block ?_) | (refine cw_exit ?_) | (refine then_exit ?_) | (refine in_exit ?_) | (refine cw_ret ?_) | (refine cw_skip ?_))
  · have hrr : r < rows.length := by omega
    have hrow := h4 _ (getD_mem (d := []) hrr)
    obtain ⟨row, hrw⟩ : ∃ x, x = rows.getD r [] := ⟨_, rfl⟩
    rw [← hrw] at hb4 hrow
    have zr := hn3.lo
    have zw := hE2.size
    have zr' := hn3.hi
    have hgw : w.heap.size ≤ gr := by omega
    have hmr : mb ≠ gr := by have := hm2.lt; omega
    have hE4 : Ex w w4 := (hE2.trans hn3.ex).chg hc4 hgw
    have hm4 := (hm2.ext hn3.ex).chg hc4 hmr
    refine cw_loop (ι := List Nat × Nat) [3, 7, 8, 9, 17, 18, 19, 20, 21, 22, 23, 24, 25, 26, 27, 28, 29, 30, 31, 32, 33, 34, 35, 36] (fun _ => [(3, .int .i64 (B.length : Int))]) (fun s w' => Ex w w' ∧ Blk w' gr 191 (wordsL s.1) ∧ MapAt w' mb (basL B) ∧ W4 s.1 ∧ (∀ j, s.2 ≤ j → bitsW s.1 j = false) ∧ ∃ u, Sp (bvs B) u ∧ bitsW row = vx (bitsW s.1) u) (fun s => s.2)
      (row, 256) ⟨rfl, trivial⟩ ⟨hE4, hb4, hm4, hrow, fun j hj => bits_big hrow.1 hj, v0, .zero, (vx_v0 _).symm⟩ ?_
    rintro ⟨ws, k⟩ ξ2 w5 ⟨hE5, hb5, hm5, hw5, hk5, u, hu, hru⟩
    simp only at hb5 hm5 hw5 hk5 hu hru
    show CW _ _ _ _ (over [(3, .int .i64 (B.length : Int))] _) w5
    have hwl := hw5.1
    repeat' (first | (refine k_loadCA rfl hb5 (by rw [List.length_map]; exact hwl) ?_) | (refine cw_seq ?_) | (refine cw_region rfl ?_) | (refine cw_block ?_))
    refine k_call (leading_spec hw5) rfl ?_
    rintro v w6 ⟨hv, hE6⟩
    refine ⟨fun _ _ => trivial, ?_⟩
    have hb6 := hb5.ext hE6
    have hm6 := hm5.ext hE6
    have hEw6 := hE5.trans hE6
    have hlast : ∀ B', (∀ v, Sp (bvs B) v → Sp (bvs B') v) → Sp (bvs B') (bitsW row) → ∀ i, i < r + 1 → Sp (bvs B') (bitsW (rows.getD i [])) := fun B' hm hr' i hi => by
      by_cases e : i = r
      · subst e; rw [← hrw]; exact hr'
      · exact hm _ (hsp i (by omega))
    rcases hv with ⟨rfl, hz⟩ | ⟨i, hi, rfl, hld⟩
    · have hrz : Sp (bvs B) (bitsW row) := by rw [hru, hz, vx_comm, vx_v0]; exact hu
      repeat' (first | (refine k_pure rfl ?_) | (refine then_normal ?_) | (refine cw_seq ?_) | (refine cw_region rfl ?_) | (refine rr_nil ?_) | (refine k_addI rfl rfl (by omega) (by omega) ?_) | (refine cw_cond_true rfl ?_) | (refine cw_exit ?_) | (refine then_exit ?_) | (refine in_exit ?_) | (refine in_exit_ne rfl ?_) | (refine in_normal ?_))
      refine ⟨⟨(r + 1, B), ⟨by simp only; omega, by simp only; omega, hEw6, hm6, hB, hlast B (fun _ h => h) hrz⟩, by simp only; omega, rfl, rfl, trivial⟩, (by (repeat (first | exact agree_mask _ _ _ | refine agree_upd rfl ?_ | refine agree_updO rfl ?_ | refine agree_overIn rfl ?_ | refine agree_maskIn rfl ?_)))⟩
    · have hik : i < k := Classical.byContradiction fun h => by have := hk5 i (by omega); rw [hld.1] at this; cases this
      repeat' (first | (refine k_lookupOk (z := .agg (wordsL [0, 0, 0, 0]).toArray) mapT2 intT rfl rfl hm6 ?_) | (refine k_pure rfl ?_) | (refine then_normal ?_) | (refine cw_seq ?_) | (refine cw_region rfl ?_) | (refine rr_nil ?_) | (refine cw_cond_false rfl ?_) | (refine cw_skip ?_))
      cases hf : findK (i : Int) (basL B) 0 with
      | none =>
        have hno : ∀ b ∈ B, b.1 ≠ i := fun b hb e => findK_no hf ((b.1 : Int), _) (List.mem_map.2 ⟨b, hb, rfl⟩) (by simp only; omega)
        have hB' := hB.add hw5 hld hno
        have hmono : ∀ v, Sp (bvs B) v → Sp (bvs (B ++ [(i, ws)])) v := fun v h => h.mono fun b hb => by simp only [bvs, List.map_append, List.mem_append]; exact .inl hb
        have hrz : Sp (bvs (B ++ [(i, ws)])) (bitsW row) := by
          rw [hru, vx_comm]
          exact .add (hmono u hu) (by simp [bvs])
        repeat' (first | (refine k_extract rfl rfl ?_) | (refine k_allocA (vs := wordsL [0, 0, 0, 0]) (fun g8 w7 hn7 => ⟨fun _ _ => trivial, ?_⟩)) | (refine k_storeV (vs := wordsL [0, 0, 0, 0]) rfl rfl rfl rfl hn7.blk rfl (fun w8 hc8 hb8 => ⟨fun _ _ => trivial, ?_⟩)) | (refine k_pure rfl ?_) | (refine then_normal ?_) | (refine cw_seq ?_) | (refine cw_region rfl ?_) | (refine rr_nil ?_) | (refine cw_cond_true rfl ?_))
        have hE8 : Ex w w8 := (hEw6.trans hn7.ex).chg hc8 (by have := hEw6.size; have := hn7.lo; omega)
        have hb8r := (hb6.ext hn7.ex).chg hc8 (by have := hb6.lt; have := hn7.lo; omega)
        have hm8 := (hm6.ext hn7.ex).chg hc8 (by have := hm6.lt; have := hn7.lo; omega)
        repeat' (first | (refine k_loadCA rfl hb8r (by rw [List.length_map]; exact hwl) ?_) | (refine k_mapNew (v := .agg (wordsL ws).toArray) mapT2 intT rfl rfl rfl hm8 (fun p hp e => by obtain ⟨b, hb, rfl⟩ := List.mem_map.1 hp; exact hno b hb (by simp only at e; omega)) (fun w9 hc9 hm9 => ⟨fun _ _ => trivial, ?_⟩)) | (refine k_pure rfl ?_) | (refine then_normal ?_) | (refine cw_seq ?_) | (refine cw_region rfl ?_) | (refine rr_nil ?_) | (refine k_addI rfl rfl (by omega) (by omega) ?_) | (refine cw_exit ?_) | (refine then_exit ?_) | (refine in_exit ?_) | (refine in_exit_ne rfl ?_) | (refine in_normal ?_))
        have hm9' : MapAt w9 mb (basL (B ++ [(i, ws)])) := by unfold basL; rw [List.map_append]; exact hm9
        refine ⟨⟨(r + 1, B ++ [(i, ws)]), ⟨by simp only; omega, by simp only [List.length_append, List.length_singleton]; omega, hE8.chg hc9 hmb, hm9', hB', hlast _ hmono hrz⟩, by simp only; omega, rfl, ?_, trivial⟩, (by (repeat (first | exact agree_mask _ _ _ | refine agree_upd rfl ?_ | refine agree_updO rfl ?_ | refine agree_overIn rfl ?_ | refine agree_maskIn rfl ?_)))⟩
        show Value.int .i64 ((B.length : Int) + 1) = _
        simp only [List.length_append, List.length_singleton]; rfl
      | some jv =>
        obtain ⟨jj, vv⟩ := jv
        have hmem := findK_yes hf
        obtain ⟨b, hb, e⟩ := List.mem_map.1 hmem
        simp only [Prod.mk.injEq] at e
        obtain ⟨e1, rfl⟩ := e
        have e1' : b.1 = i := by omega
        have hbw := hB.w4 b hb
        have hbl := hB.lead b hb
        rw [e1'] at hbl
        repeat' (first | (refine k_extract rfl rfl ?_) | (refine k_allocA (vs := wordsL [0, 0, 0, 0]) (fun g8 w7 hn7 => ⟨fun _ _ => trivial, ?_⟩)) | (refine k_storeV (vs := wordsL b.2) rfl rfl (by rw [List.length_map]; exact hbw.1) (all_one (fun _ => rfl) _) hn7.blk rfl (fun w8 hc8 hb8 => ⟨fun _ _ => trivial, ?_⟩)) | (refine k_pure rfl ?_) | (refine then_normal ?_) | (refine cw_seq ?_) | (refine cw_region rfl ?_) | (refine rr_nil ?_) | (refine cw_cond_false rfl ?_) | (refine cw_skip ?_))
        have hE8 : Ex w w8 := (hEw6.trans hn7.ex).chg hc8 (by have := hEw6.size; have := hn7.lo; omega)
        have hb8r := (hb6.ext hn7.ex).chg hc8 (by have := hb6.lt; have := hn7.lo; omega)
        have hm8 := (hm6.ext hn7.ex).chg hc8 (by have := hm6.lt; have := hn7.lo; omega)
        repeat' (first | (refine k_loadCA rfl hb8r (by rw [List.length_map]; exact hwl) ?_) | (refine k_loadCA rfl hb8 (by rw [List.length_map]; exact hbw.1) ?_))
        refine k_call (plus_spec hw5 hbw) rfl ?_
        rintro v w9 ⟨rfl, hE9⟩
        refine ⟨fun _ _ => trivial, ?_⟩
        have hwx := hw5.xor hbw
        repeat' (first | (refine k_storeV (vs := wordsL (xorW ws b.2 4)) rfl rfl (by rw [List.length_map]; exact hwx.1) (all_one (fun _ => rfl) _) (hb8r.ext hE9) (by rw [List.length_map]; exact hwl) (fun w10 hc10 hb10 => ⟨fun _ _ => trivial, ?_⟩)) | (refine then_normal ?_) | (refine rr_nil ?_) | (refine in_normal ?_))
        refine ⟨⟨(xorW ws b.2 4, i), ⟨(hE8.trans hE9).chg hc10 hgw, hb10, (hm8.ext hE9).chg hc10 hmr, hwx, fun j hj => ?_, vx u (bitsW b.2), .add hu (List.mem_map.2 ⟨b, hb, rfl⟩), ?_⟩, hik, rfl, trivial⟩, (by (repeat (first | exact agree_mask _ _ _ | refine agree_upd rfl ?_ | refine agree_updO rfl ?_ | refine agree_overIn rfl ?_ | refine agree_maskIn rfl ?_)))⟩
        · rw [bits_xor hw5.1 hbw.1]; exact lead_vx hld hbl j hj
        · rw [bits_xor hw5.1 hbw.1, hru, vx_comm u, vx_assoc, ← vx_assoc (bitsW b.2), vx_self, vx_comm v0, vx_v0]
  · obtain rfl : r = rows.length := by omega
    refine ret1 rfl (rt rfl) ⟨hE2, B, rfl, hB, hBl, fun x hx => ?_⟩
    obtain ⟨i, hi, e⟩ := List.getElem_of_mem hx
    have := hsp i hi
    rw [List.getD_eq_getElem?_getD, List.getElem?_eq_getElem hi, Option.getD_some, e] at this
    exact this
end Go.Proofs.Ythhfjagnmhhapaa

/- The bound on the order of a group: plain laws for the program's computation. -/
namespace Go.PM
theorem cnt_snoc (c : Nat → Nat) (r : Nat) : ∀ d a, cntF c r a (d + 1) = cntF c r a d + (if c (a + d) = r then 1 else 0)
  | 0, a => by simp [cntF]
  | d + 1, a => by
    rw [cntF, cnt_snoc c r d (a + 1), show a + 1 + d = a + (d + 1) by omega, cntF]; omega
theorem cnt_le (c : Nat → Nat) (r : Nat) : ∀ d a, cntF c r a d ≤ d
  | 0, _ => Nat.le_refl _
  | d + 1, a => by have := cnt_le c r d (a + 1); rw [cntF]; split <;> omega
theorem cnt_ge {c : Nat → Nat} {r n : Nat} {a b : Nat} (ha : a < n) (hb : b < n) (hab : a ≠ b) (h1 : c a = r) (h2 : c b = r) : 2 ≤ cntF c r 0 n := by
  rw [← listF_len]
  refine nodup_le (l := [(a : Int), (b : Int)]) (by simp; omega) fun x hx => ?_
  simp only [List.mem_cons, List.not_mem_nil, or_false] at hx
  rcases hx with rfl | rfl
  · exact mem_listF c r n 0 a (by omega) (by omega) h1
  · exact mem_listF c r n 0 b (by omega) (by omega) h2
def bigs (sz : Nat → Nat) : Nat → List Nat
  | 0 => []
  | k + 1 => if 2 ≤ sz k then bigs sz k ++ [k] else bigs sz k
theorem bigs_len (sz : Nat → Nat) : ∀ k, (bigs sz k).length ≤ k
  | 0 => Nat.le_refl _
  | k + 1 => by have := bigs_len sz k; rw [bigs]; split <;> simp <;> omega
theorem mem_bigs {sz : Nat → Nat} : ∀ {k r : Nat}, r ∈ bigs sz k ↔ r < k ∧ 2 ≤ sz r
  | 0, r => by simp [bigs]
  | k + 1, r => by
    rw [bigs]
    split
    · rename_i h
      rw [List.mem_append, mem_bigs, List.mem_singleton]
      constructor
      · rintro (⟨h1, h2⟩ | rfl)
        · exact ⟨by omega, h2⟩
        · exact ⟨by omega, h⟩
      · rintro ⟨h1, h2⟩
        by_cases e : r = k
        · exact .inr e
        · exact .inl ⟨by omega, h2⟩
    · rename_i h
      rw [mem_bigs]
      constructor
      · rintro ⟨h1, h2⟩; exact ⟨by omega, h2⟩
      · rintro ⟨h1, h2⟩
        exact ⟨by have : r ≠ k := by rintro rfl; exact h h2
                  omega, h2⟩
theorem bigs_nodup (sz : Nat → Nat) : ∀ k, (bigs sz k).Nodup
  | 0 => by simp [bigs]
  | k + 1 => by
    rw [bigs]; split
    · rw [List.nodup_append]
      refine ⟨bigs_nodup sz k, by simp, fun a ha b hb => ?_⟩
      rw [List.mem_singleton] at hb; subst hb
      rintro rfl
      have := (mem_bigs.1 ha).1
      omega
    · exact bigs_nodup sz k
theorem bigs_pre {sz : Nat → Nat} : ∀ {k r : Nat}, r ≤ k → ∃ t, bigs sz k = bigs sz r ++ t
  | 0, r, h => by obtain rfl : r = 0 := by omega
                  exact ⟨[], by simp⟩
  | k + 1, r, h => by
    by_cases e : r = k + 1
    · subst e; exact ⟨[], by simp⟩
    · obtain ⟨t, ht⟩ := bigs_pre (sz := sz) (show r ≤ k by omega)
      rw [bigs]; split
      · exact ⟨t ++ [k], by rw [ht, List.append_assoc]⟩
      · exact ⟨t, ht⟩
def nameF (sz : Nat → Nat) (r : Nat) : Int := if 2 ≤ sz r then ((bigs sz r).length : Int) else -1
theorem bigs_at {sz : Nat → Nat} {n r : Nat} (hr : r < n) (h : 2 ≤ sz r) : (bigs sz r).length < (bigs sz n).length ∧ (bigs sz n).getD (bigs sz r).length 0 = r := by
  obtain ⟨t, ht⟩ := bigs_pre (sz := sz) (show r + 1 ≤ n by omega)
  have e : bigs sz (r + 1) = bigs sz r ++ [r] := by rw [bigs, if_pos h]
  rw [ht, e]
  refine ⟨by simp, ?_⟩
  rw [List.getD_eq_getElem?_getD, List.append_assoc, List.getElem?_append_right (Nat.le_refl _)]; simp
theorem name_iff {sz : Nat → Nat} {n r o : Nat} (hr : r < n) (h : 2 ≤ sz r) (ho : o < (bigs sz n).length) : nameF sz r = (o : Int) ↔ r = (bigs sz n).getD o 0 := by
  obtain ⟨h1, h2⟩ := bigs_at hr h
  have h1' := h1
  unfold nameF
  rw [if_pos h]
  constructor
  · intro e
    have e' : (bigs sz r).length = o := by omega
    rw [← e']; exact h2.symm
  · intro e
    have h3 : (bigs sz n).getD (bigs sz r).length 0 = (bigs sz n).getD o 0 := h2.trans e
    rw [List.getD_eq_getElem?_getD, List.getD_eq_getElem?_getD, List.getElem?_eq_getElem h1', List.getElem?_eq_getElem ho] at h3
    have := (List.getElem_inj (bigs_nodup sz n)).1 h3
    omega
theorem rep_inj {sz : Nat → Nat} {n o o' : Nat} (ho : o < (bigs sz n).length) (ho' : o' < (bigs sz n).length) (h : (bigs sz n).getD o 0 = (bigs sz n).getD o' 0) : o = o' := by
  rw [List.getD_eq_getElem?_getD, List.getD_eq_getElem?_getD, List.getElem?_eq_getElem ho, List.getElem?_eq_getElem ho'] at h
  exact (List.getElem_inj (bigs_nodup sz n)).1 h
theorem rep_big {sz : Nat → Nat} {n o : Nat} (ho : o < (bigs sz n).length) : (bigs sz n).getD o 0 < n ∧ 2 ≤ sz ((bigs sz n).getD o 0) := mem_bigs.1 (getD_mem ho)
theorem flip_big {n : Nat} {c : Nat → Nat} {p : List Int} (h : Keep n c 0 p) {x : Nat} (hx : x < n) (hf : flipAt p x = true) : 2 ≤ cntF c (c x) 0 n := by
  have ix : In p (x : Int) := by unfold In; rw [h.1.2]; omega
  unfold flipAt at hf
  rw [Bool.and_eq_true] at hf
  have he : per p x % 2 = 0 := by simpa using hf.2
  have h1 := (cyc_spec h.1.1 ix).1
  have hne : ap p (x : Int) ≠ x := fun e => by have := (per_one h.1.1 ix).2 e; omega
  have hr := h.1.ap (x := (x : Int)) (by omega)
  exact cnt_ge (a := x) (b := (ap p x).toNat) hx (by omega) (by omega) rfl (h.2.1 x hx)
theorem vec_eq {n : Nat} {c : Nat → Nat} {p : List Int} (h : Keep n c 0 p) (hc : ∀ x, x < n → c x < n) {f : Nat → Int} (hf : ∀ x, x < n → f x = nameF (fun r => cntF c r 0 n) (c x)) (o : Nat) :
    sgO p f o n = vec n c (bigs (fun r => cntF c r 0 n) n).length (fun o => (bigs (fun r => cntF c r 0 n) n).getD o 0) p o := by
  unfold vec
  by_cases ho : o < (bigs (fun r => cntF c r 0 n) n).length
  · rw [decide_eq_true ho, Bool.true_and, sg_eq h]
    have : ∀ k, k ≤ n → sgO p f o k = sgO p (fun x => (c x : Int)) ((bigs (fun r => cntF c r 0 n) n).getD o 0 : Nat) k := by
      intro k
      induction k with
      | zero => intro _; rfl
      | succ k ih =>
        intro hk
        rw [sgO, sgO, ih (by omega)]
        congr 1
        cases hfl : flipAt p k with
        | false => rfl
        | true =>
          rw [Bool.true_and, Bool.true_and]
          have hb := flip_big h (show k < n by omega) hfl
          have hi := name_iff (sz := fun r => cntF c r 0 n) (hc k (by omega)) hb ho
          rw [hf k (by omega)]
          by_cases e : nameF (fun r => cntF c r 0 n) (c k) = (o : Int)
          · rw [decide_eq_true e, decide_eq_true]
            rw [← hi.1 e]
          · rw [decide_eq_false e, decide_eq_false]
            intro e'; exact e (hi.2 (by omega))
    exact this n (Nat.le_refl _)
  · rw [decide_eq_false ho, Bool.false_and]
    have : ∀ k, k ≤ n → sgO p f o k = false := by
      intro k
      induction k with
      | zero => intro _; rfl
      | succ k ih =>
        intro hk
        rw [sgO, ih (by omega), Bool.false_xor]
        cases hfl : flipAt p k with
        | false => rfl
        | true =>
          rw [Bool.true_and]
          have hb := flip_big h (show k < n by omega) hfl
          have hi := (bigs_at (sz := fun r => cntF c r 0 n) (hc k (by omega)) hb).1
          refine decide_eq_false ?_
          rw [hf k (by omega)]
          unfold nameF
          rw [if_pos hb]; omega
    exact this n (Nat.le_refl _)
end Go.PM

namespace Go.Proofs.Ythhfjagnmhhapaa
open Go.W Go.PM
structure SS where
  sb : Nat
  pa : Nat
  pc : Nat
  sds : List SD
  pd : SD
  im : List Nat
  ps : List (List Int)
  pr : List Int
structure SrcAt (w : World) (n cb : Nat) (s : SS) (gens : List (List Int)) : Prop where
  str : Blk w s.sb 174 (srcL (.slice (ba s.pa) s.ps.length s.pc) (.slice s.pd.a n s.pd.cap) cb 3)
  pool : Own w 0 110 1 (ba s.pa) s.ps.length s.pc (s.sds.map SD.val)
  pls : PsAt w n s.im s.sds s.ps
  pd : Sl w s.pd.a (u16L s.pr)
  pdi : ∀ ad, s.pd.a = some ad → ad.block ∈ s.im
  mem : ∀ i, i < s.ps.length → Gen n gens (s.ps.getD i [])
  pm : Gen n gens s.pr
  gn : GensN n gens
  n1 : 1 ≤ n ∧ n ≤ 512
  ne : s.sb ≠ s.pa ∧ s.sb ≠ cb ∧ s.pa ≠ cb
  dis : s.sb ∉ s.im ∧ s.pa ∉ s.im ∧ cb ∉ s.im
  imlt : ∀ q, q ∈ s.im → q < w.heap.size
  len : 2 ≤ s.ps.length ∧ s.ps.length ≤ 1000000000000
theorem PsAt.setP {w : World} {n : Nat} {im : List Nat} {sds : List SD} {ps : List (List Int)} (h : PsAt w n im sds ps) {i : Nat} {s : SD} {p : List Int} (hi : i < ps.length) (hs : Sl w s.a (u16L p)) (hl : s.len = n) (hm : ∀ ad, s.a = some ad → ad.block ∈ im) : PsAt w n im (sds.set i s) (ps.set i p) := by
  have e : ∀ j, (sds.set i s).getD j sd0 = if j = i then s else sds.getD j sd0 := fun j => getD_set' (by rw [h.len]; exact hi)
  have e' : ∀ j, (ps.set i p).getD j [] = if j = i then p else ps.getD j [] := fun j => getD_set' hi
  refine ⟨by simp [h.len], fun j hj => ?_, fun j hj => ?_, fun j hj ad => ?_⟩ <;> rw [List.length_set] at hj <;> rw [e j]
  · rw [e' j]; split
    · exact hs
    · exact h.sl j hj
  · split
    · exact hl
    · exact h.n j hj
  · split
    · exact hm ad
    · exact h.im j hj ad
theorem srcNext_spec {w : World} {n cb Tc st : Nat} {s : SS} {gens : List (List Int)} {cs : List Value} (hS : SrcAt w n cb s gens) (hc : Blk w cb Tc cs) (ho : cs[3]? = some (.int .u64 (st : Int))) (hst : st < 18446744073709551616) :
    CallsR Try.prog 110 #[.pointer (some ⟨s.sb, 0, none⟩)] w fun v w' => ∃ (g c : Nat) (p : List Int) (st' : Nat) (s' : SS), v = .slice (ba g) n c ∧ w.heap.size ≤ g ∧ Own w' 0 129 1 (ba g) n c (u16L p) ∧ Gen n gens p ∧ st' < 18446744073709551616 ∧
      Blk w' cb Tc (cs.set 3 (.int .u64 (st' : Int))) ∧ SrcAt w' n cb s' gens ∧ g ∉ s'.im ∧ Fr (fun q => q = cb ∨ q = s.sb ∨ q = s.pa) w w' ∧ s'.sb = s.sb ∧ s'.pa = s.pa ∧ s'.ps.length = s.ps.length ∧ (∀ q, q ∈ s'.im → q ∈ s.im ∨ w.heap.size ≤ q) := by
  refine callsR_of (args := [_]) Try.func110 rfl rfl ?_
  obtain ⟨sb, pa, pc, sds, ⟨da, dl, dc⟩, im, ps, pr⟩ := s
  obtain ⟨str, pool, pls, pd, pdi, mem, pm, gn, n1, ⟨ne1, ne2, ne3⟩, ⟨dis1, dis2, dis3⟩, imlt, len⟩ := hS
  simp only at str pool pls pd pdi mem pm ne1 ne2 ne3 dis1 dis2 dis3 imlt len
  have grp := gen_grp n1 gn
  have hol : 3 < cs.length := (List.getElem?_eq_some_iff.1 ho).1
  have hsl := pls.len
  repeat' (first | (refine k_loadC rfl str rfl ?_) | (refine k_pure rfl ?_) | (refine then_normal ?_) | (refine cw_seq ?_) | (refine cw_region rfl ?_) | (refine rr_nil ?_) | (refine k_len rfl ?_) | (refine k_fieldAddr rfl ?_))
  refine k_call (choose_spec str hc ho ne2 hst (n := ps.length) (by omega)) rfl ?_
  rintro v w1 ⟨i, st1, rfl, hi, hst1, hc1, hb1⟩
  refine ⟨fun _ _ => trivial, ?_⟩
  have str1 := str.chg hc1 ne2
  have ho1 : (cs.set 3 (.int .u64 (st1 : Int)))[3]? = some (.int .u64 (st1 : Int)) := by rw [List.getElem?_set_self hol]
  repeat' (first | (refine k_pure rfl ?_) | (refine then_normal ?_) | (refine cw_seq ?_) | (refine rr_nil ?_))
  refine cw_draw (late := []) (plan := [(0, none), (1, none), (2, none), (3, none), (4, none), (5, none), (6, none), (7, none), (8, none), (11, none), (12, none), (13, none), (14, none), (15, none), (9, some true), (10, none), (16, none), (17, none)]) (fun w' => Blk w' sb 174 (srcL (.slice (ba pa) ps.length pc) (.slice da n dc) cb 3)) mixed (by kernel_rfl) str1.drew ?_
  repeat' (first | (refine k_loadC rfl (fun _ h => h) rfl ?_) | (refine k_pure rfl ?_) | (refine k_len rfl ?_) | (refine k_addI rfl rfl (by omega) (by omega) ?_) | (refine k_subI rfl rfl (by omega) (by omega) ?_) | (refine k_fieldAddr rfl ?_))
  have hcm : Blk w1 cb Tc (cs.set 3 (.int .u64 (st1 : Int))) := hb1
  refine k_call (choose_spec (n := ps.length - 1) str1.drew hcm.drew ho1 ne2 hst1 (by omega)) (by rw [Int.ofNat_sub (by omega)]; rfl) ?_
  rintro v w2 ⟨r2, st2, rfl, hr2, hst2, hc2, hb2⟩
  refine ⟨fun _ h => h.chg hc2 ne2, ?_⟩
  rw [List.set_set] at hb2
  have str2 := str1.drew.chg hc2 ne2
  have ho2 : (cs.set 3 (.int .u64 (st2 : Int)))[3]? = some (.int .u64 (st2 : Int)) := by rw [List.getElem?_set_self hol]
  obtain ⟨j, hj⟩ : ∃ j, j = (i + 1 + r2) % ps.length := ⟨_, rfl⟩
  have hjl : j < ps.length := by rw [hj]; exact Nat.mod_lt _ (by omega)
  have hje : ((i : Int) + 1 + (r2 : Int)) % (ps.length : Int) = (j : Int) := by rw [hj, Int.natCast_emod]; rfl
  repeat' (first | (refine k_rem rfl rfl (by omega) (by omega) ?_) | (refine k_pure rfl ?_) | (refine then_normal ?_) | (refine cw_seq ?_) | (refine cw_region rfl ?_) | (refine rr_nil ?_) | (refine k_addI rfl rfl (by omega) (by omega) ?_))
  rw [hje]
  skip
  refine k_call (choose_spec (n := 2) str2 hb2 ho2 ne2 hst2 (by omega)) rfl ?_
  rintro v w3 ⟨r3, st3, rfl, hr3, hst3, hc3, hb3⟩
  refine ⟨fun _ _ => trivial, ?_⟩
  rw [List.set_set] at hb3
  have str3 := str2.chg hc3 ne2
  have pool3 := ((pool.chg hc1 (by rintro _ ⟨⟩; exact ne3)).drew.chg hc2 (by rintro _ ⟨⟩; exact ne3)).chg hc3 (by rintro _ ⟨⟩; exact ne3)
  have F13 : Fr (One cb) w w3 := (((f1C hc1).trans ((Chg.refl cb w1).drew.fr rfl)).trans (f1C hc2)).trans (f1C hc3)
  have hx : ∀ q, q ∈ im → ¬ One cb q := fun q hq e => dis3 (by have : q = cb := e; rw [← this]; exact hq)
  have pls3 := pls.fr F13 hx
  have pd3 := pd.fr F13 fun ad e => hx _ (pdi ad e)
  obtain ⟨⟨ai, li, ci⟩, hdi⟩ : ∃ s, sds.getD i sd0 = s := ⟨_, rfl⟩
  obtain ⟨⟨aj, lj, cj⟩, hdj⟩ : ∃ s, sds.getD j sd0 = s := ⟨_, rfl⟩
  have si := pls3.sl i hi
  have sj := pls3.sl j hjl
  have ni := pls3.n i hi
  have nj := pls3.n j hjl
  rw [hdi] at si ni
  rw [hdj] at sj nj
  simp only at si sj ni nj
  replace ni := ni.symm
  replace nj := nj.symm
  subst ni
  subst nj
  have pi := grp.perm _ (mem i hi)
  have pj := grp.perm _ (mem j hjl)
  have hrg : ∀ x y : List Int, PermN n x → PermN n y → ∀ k, k < x.length → 0 ≤ x.getD k 0 ∧ x.getD k 0 < y.length := fun x y hx hy k hk => by have := hx.1.lt hk; rw [hx.2] at this; rw [hy.2]; exact this
  repeat' (first | (refine k_pure rfl ?_) | (refine then_normal ?_) | (refine rr_nil ?_) | (refine cw_cond_dec rfl (fun hc => ?_) (fun hc => ?_)))
  refine cw_draw (late := [21]) (plan := [(0, none), (1, none), (2, none), (3, none), (4, none), (5, none), (6, none), (7, none), (8, none), (9, none), (10, none), (11, none), (12, none), (13, none), (14, none), (15, none), (16, none), (17, none), (18, none), (19, some true), (20, none), (21, some false)]) (fun w' => Blk w' sb 174 (srcL (.slice (ba pa) ps.length pc) (.slice da n dc) cb 3) ∧ Sl w' (ba pa) (sds.map SD.val)) mixed (by kernel_rfl) ⟨str3.drew, pool3.sl.drew⟩ ?_
  repeat' (first | (refine k_loadC rfl (fun _ h => h.1) rfl ?_) | (refine k_indexN (j := i) rfl rfl ⟨_, _, rfl⟩ (by omega) ?_) | (refine k_indexN (j := j) rfl rfl ⟨_, _, rfl⟩ (by omega) ?_) | (refine k_loadSd (j := i) rfl (fun _ h => h.2) (by omega) hdi ?_) | (refine k_loadSd (j := j) rfl (fun _ h => h.2) (by omega) hdj ?_) | (refine k_pure rfl ?_) | (refine k_fieldAddr rfl ?_))
  refine k_call (times_spec (xs := ps.getD i []) (ys := ps.getD j []) si.drew sj.drew _ _ (hrg _ _ pi pj) (by rw [pi.2]; omega)) (by rw [pi.2, pj.2]; rfl) ?_
  rintro v w4 ⟨g4, rfl, hg4, hb4, hE4⟩
  refine ⟨fun _ h => ⟨h.1.ext hE4, h.2.ext hE4⟩, ?_⟩
  rw [mulP_length, pi.2]
  repeat' (first | (refine k_indexN (j := i) rfl rfl ⟨_, _, rfl⟩ (by omega) ?_) | (refine k_storeOwn (v := SD.val ⟨ba g4, n, n⟩) rfl rfl rfl (pool3.drew.ext hE4) (by simp; omega) (fun gx w5 hgx _ hc5 ho5 => ⟨fun h => (nomatch h), ?_⟩)) | (refine then_normal ?_) | (refine cw_seq ?_) | (refine rr_nil ?_))
  obtain ⟨q, hqe, hqg⟩ : ∃ q, q = mulP (ps.getD i []) (ps.getD j []) ∧ Gen n gens q := ⟨_, rfl, grp.mul _ _ (mem i (by omega)) (mem j (by omega))⟩
  rw [← hqe] at hb4
  rotate_left
  refine cw_draw (late := [21]) (plan := [(0, none), (1, none), (2, none), (3, none), (4, none), (5, none), (6, none), (7, none), (8, none), (9, none), (10, none), (11, none), (12, none), (13, none), (14, none), (15, none), (16, none), (17, none), (18, none), (19, some true), (20, none), (21, some false)]) (fun w' => Blk w' sb 174 (srcL (.slice (ba pa) ps.length pc) (.slice da n dc) cb 3) ∧ Sl w' (ba pa) (sds.map SD.val)) mixed (by kernel_rfl) ⟨str3.drew, pool3.sl.drew⟩ ?_
  repeat' (first | (refine k_loadC rfl (fun _ h => h.1) rfl ?_) | (refine k_indexN (j := i) rfl rfl ⟨_, _, rfl⟩ (by omega) ?_) | (refine k_indexN (j := j) rfl rfl ⟨_, _, rfl⟩ (by omega) ?_) | (refine k_loadSd (j := i) rfl (fun _ h => h.2) (by omega) hdi ?_) | (refine k_loadSd (j := j) rfl (fun _ h => h.2) (by omega) hdj ?_) | (refine k_pure rfl ?_) | (refine k_fieldAddr rfl ?_))
  refine k_call (times_spec (xs := ps.getD j []) (ys := ps.getD i []) sj.drew si.drew _ _ (hrg _ _ pj pi) (by rw [pj.2]; omega)) (by rw [pj.2, pi.2]; rfl) ?_
  rintro v w4 ⟨g4, rfl, hg4, hb4, hE4⟩
  refine ⟨fun _ h => ⟨h.1.ext hE4, h.2.ext hE4⟩, ?_⟩
  rw [mulP_length, pj.2]
  repeat' (first | (refine k_indexN (j := i) rfl rfl ⟨_, _, rfl⟩ (by omega) ?_) | (refine k_storeOwn (v := SD.val ⟨ba g4, n, n⟩) rfl rfl rfl (pool3.drew.ext hE4) (by simp; omega) (fun gx w5 hgx _ hc5 ho5 => ⟨fun h => (nomatch h), ?_⟩)) | (refine then_normal ?_) | (refine cw_seq ?_) | (refine rr_nil ?_))
  obtain ⟨q, hqe, hqg⟩ : ∃ q, q = mulP (ps.getD j []) (ps.getD i []) ∧ Gen n gens q := ⟨_, rfl, grp.mul _ _ (mem j (by omega)) (mem i (by omega))⟩
  rw [← hqe] at hb4
  · obtain rfl : pa = gx := by injection hgx with e; injection e
    rw [← List.map_set] at ho5
    have z3 := F13.size
    have pal : pa < w3.heap.size := (pool3.lo _ rfl).2
    have sbl : sb < w3.heap.size := str3.lt
    have cbl : cb < w3.heap.size := hb3.lt
    have hE34 : Ex w3 w4 := (Ex.refl w3).drew.trans hE4
    have z4 := hE34.size
    replace hg4 : w3.heap.size ≤ g4 := hg4
    have g4l := hb4.lt
    have z5 : w4.heap.size = w5.heap.size := hc5.size.symm
    have F35 : Fr (One pa) w3 w5 := hE34.fr.trans (f1C hc5)
    have hx2 : ∀ q, q ∈ im → ¬ One pa q := fun q hq e => dis2 (by have : q = pa := e; rw [← this]; exact hq)
    have str5 := Blk.f1 str3 F35 ne1
    have cb5 := Blk.f1 hb3 F35 (Ne.symm ne3)
    have b5 := hb4.chg hc5 (by omega)
    have pq := grp.perm _ hqg
    have ppr := grp.perm _ pm
    have pls5 := ((pls3.fr F35 hx2).mono (im' := g4 :: im) fun x hx => List.mem_cons_of_mem _ hx).setP hi (s := ⟨ba g4, n, n⟩) (p := q) b5.sl rfl (by rintro _ ⟨⟩; simp)
    have pd5 := pd3.fr F35 fun ad e => hx2 _ (pdi ad e)
    have hdi5 : (sds.set i ⟨ba g4, n, n⟩).getD i sd0 = ⟨ba g4, n, n⟩ := by rw [getD_set' (by omega), if_pos rfl]
    skip
    refine cw_draw (late := [15]) (plan := [(0, none), (1, none), (2, none), (3, none), (4, none), (5, none), (6, none), (7, none), (8, none), (9, none), (10, none), (11, none), (12, some true), (13, none), (14, none), (15, some false)]) (fun w' => Blk w' sb 174 (srcL (.slice (ba pa) ps.length pc) (.slice da n dc) cb 3) ∧ Sl w' (ba pa) ((sds.set i ⟨ba g4, n, n⟩).map SD.val)) mixed (by kernel_rfl) ⟨str5.drew, ho5.sl.drew⟩ ?_
    repeat' (first | (refine k_loadC rfl (fun _ h => h.1) rfl ?_) | (refine k_indexN (j := i) rfl rfl ⟨_, _, rfl⟩ (by omega) ?_) | (refine k_loadSd (j := i) rfl (fun _ h => h.2) (by rw [List.length_set]; omega) hdi5 ?_) | (refine k_pure rfl ?_) | (refine k_fieldAddr rfl ?_))
    refine k_call (times_spec (xs := pr) (ys := q) pd5.drew b5.sl.drew _ _ (hrg _ _ ppr pq) (by rw [ppr.2]; omega)) (by rw [ppr.2, pq.2]; rfl) ?_
    rintro v w6 ⟨g6, rfl, hg6, hb6, hE6⟩
    refine ⟨fun _ h => ⟨h.1.ext hE6, h.2.ext hE6⟩, ?_⟩
    rw [mulP_length, ppr.2]
    have hE56 : Ex w5 w6 := (Ex.refl w5).drew.trans hE6
    repeat' (first | (refine k_storeC rfl rfl rfl (str5.ext hE56) rfl (fun w7 hc7 hs7 => ⟨fun h => (nomatch h), ?_⟩)) | (refine k_pure rfl ?_) | (refine then_normal ?_) | (refine cw_seq ?_) | (refine cw_region rfl ?_) | (refine rr_nil ?_) | (refine k_fieldAddr rfl ?_))
    replace hg6 : w5.heap.size ≤ g6 := hg6
    have g6l := hb6.lt
    replace hc7 : Chg sb w6 w7 := hc7
    have b7 := hb6.chg hc7 (by omega)
    have hr7 := grp.mul _ _ pm hqg
    have pr7 := grp.perm _ hr7
    obtain ⟨r, hr⟩ : ∃ r, r = mulP pr q := ⟨_, rfl⟩
    rw [← hr] at b7 hr7 pr7
    repeat' (first | (refine k_loadC rfl hs7 rfl ?_))
    refine k_call (clone_spec (xs := r) (cap := n) b7.sl (by rw [pr7.2]; omega) (by rw [pr7.2]; omega)) (by rw [pr7.2]; rfl) ?_
    rintro v w8 ⟨g8, c8, rfl, hg8, ho8, hE8⟩
    refine ⟨fun _ _ => trivial, ?_⟩
    rw [pr7.2] at ho8 ⊢
    repeat' (first | (refine k_pure rfl ?_) | (refine then_normal ?_) | (refine rr_nil ?_) | (refine cw_ret ?_))
    have z56 := hE56.size
    have z67 : w6.heap.size = w7.heap.size := hc7.size.symm
    have z78 := hE8.size
    have F58 : Fr (One sb) w5 w8 := (hE56.fr.trans (f1C hc7)).trans hE8.fr
    have hx3 : ∀ q, q ∈ im → ¬ One sb q := fun q hq e => dis1 (by have : q = sb := e; rw [← this]; exact hq)
    have hx4 : ∀ q, q ∈ g4 :: im → ¬ One sb q := fun q hq e => by
      rcases List.mem_cons.1 hq with rfl | hq
      · have : q = sb := e; omega
      · exact hx3 q hq e
    have hmemps : ∀ k, k < (ps.set i q).length → Gen n gens ((ps.set i q).getD k []) := fun k hk => by
      rw [List.length_set] at hk
      rw [getD_set' hi]; split
      · exact hqg
      · exact mem k hk
    refine ret1 rfl (rt rfl) ⟨g8, c8, r, st3, ⟨sb, pa, pc, sds.set i ⟨ba g4, n, n⟩, ⟨ba g6, n, n⟩, g6 :: g4 :: im, ps.set i q, r⟩, rfl, by omega, ho8, hr7, hst3, Blk.f1 cb5 F58 (Ne.symm ne2), ⟨?_, ?_, ?_, b7.sl.ext hE8, by rintro _ ⟨⟩; simp, hmemps, hr7, gn, n1, ⟨ne1, ne2, ne3⟩, ?_, ?_, by simp only [List.length_set]; exact len⟩, ?_, ?_, rfl, rfl, by simp only [List.length_set], fun x hx => ?_⟩
    · have := hs7.ext hE8
      simp only [List.length_set]
      exact this
    · simp only [List.length_set]
      exact Own.f1 ho5 F58 (Ne.symm ne1)
    · exact (pls5.fr F58 hx4).mono fun x hx => List.mem_cons_of_mem _ hx
    · simp only [List.mem_cons, not_or]
      exact ⟨⟨by omega, by omega, dis1⟩, ⟨by omega, by omega, dis2⟩, ⟨by omega, by omega, dis3⟩⟩
    · intro x hx
      simp only [List.mem_cons] at hx
      rcases hx with rfl | rfl | hx
      · omega
      · omega
      · have := imlt x hx; omega
    · simp only [List.mem_cons, not_or]
      exact ⟨by omega, by omega, fun hx => by have := imlt _ hx; omega⟩
    · exact ((Fr.sub1 F13 (F := fun x => x = cb ∨ x = sb ∨ x = pa) (.inl rfl)).trans (Fr.sub1 F35 (F := fun x => x = cb ∨ x = sb ∨ x = pa) (.inr (.inr rfl)))).trans (Fr.sub1 F58 (F := fun x => x = cb ∨ x = sb ∨ x = pa) (.inr (.inl rfl)))
    · simp only [List.mem_cons] at hx
      rcases hx with rfl | rfl | hx
      · exact .inr (by omega)
      · exact .inr (by omega)
      · exact .inl hx
  · obtain rfl : pa = gx := by injection hgx with e; injection e
    rw [← List.map_set] at ho5
    have z3 := F13.size
    have pal : pa < w3.heap.size := (pool3.lo _ rfl).2
    have sbl : sb < w3.heap.size := str3.lt
    have cbl : cb < w3.heap.size := hb3.lt
    have hE34 : Ex w3 w4 := (Ex.refl w3).drew.trans hE4
    have z4 := hE34.size
    replace hg4 : w3.heap.size ≤ g4 := hg4
    have g4l := hb4.lt
    have z5 : w4.heap.size = w5.heap.size := hc5.size.symm
    have F35 : Fr (One pa) w3 w5 := hE34.fr.trans (f1C hc5)
    have hx2 : ∀ q, q ∈ im → ¬ One pa q := fun q hq e => dis2 (by have : q = pa := e; rw [← this]; exact hq)
    have str5 := Blk.f1 str3 F35 ne1
    have cb5 := Blk.f1 hb3 F35 (Ne.symm ne3)
    have b5 := hb4.chg hc5 (by omega)
    have pq := grp.perm _ hqg
    have ppr := grp.perm _ pm
    have pls5 := ((pls3.fr F35 hx2).mono (im' := g4 :: im) fun x hx => List.mem_cons_of_mem _ hx).setP hi (s := ⟨ba g4, n, n⟩) (p := q) b5.sl rfl (by rintro _ ⟨⟩; simp)
    have pd5 := pd3.fr F35 fun ad e => hx2 _ (pdi ad e)
    have hdi5 : (sds.set i ⟨ba g4, n, n⟩).getD i sd0 = ⟨ba g4, n, n⟩ := by rw [getD_set' (by omega), if_pos rfl]
    skip
    refine cw_draw (late := [15]) (plan := [(0, none), (1, none), (2, none), (3, none), (4, none), (5, none), (6, none), (7, none), (8, none), (9, none), (10, none), (11, none), (12, some true), (13, none), (14, none), (15, some false)]) (fun w' => Blk w' sb 174 (srcL (.slice (ba pa) ps.length pc) (.slice da n dc) cb 3) ∧ Sl w' (ba pa) ((sds.set i ⟨ba g4, n, n⟩).map SD.val)) mixed (by kernel_rfl) ⟨str5.drew, ho5.sl.drew⟩ ?_
    repeat' (first | (refine k_loadC rfl (fun _ h => h.1) rfl ?_) | (refine k_indexN (j := i) rfl rfl ⟨_, _, rfl⟩ (by omega) ?_) | (refine k_loadSd (j := i) rfl (fun _ h => h.2) (by rw [List.length_set]; omega) hdi5 ?_) | (refine k_pure rfl ?_) | (refine k_fieldAddr rfl ?_))
    refine k_call (times_spec (xs := pr) (ys := q) pd5.drew b5.sl.drew _ _ (hrg _ _ ppr pq) (by rw [ppr.2]; omega)) (by rw [ppr.2, pq.2]; rfl) ?_
    rintro v w6 ⟨g6, rfl, hg6, hb6, hE6⟩
    refine ⟨fun _ h => ⟨h.1.ext hE6, h.2.ext hE6⟩, ?_⟩
    rw [mulP_length, ppr.2]
    have hE56 : Ex w5 w6 := (Ex.refl w5).drew.trans hE6
    repeat' (first | (refine k_storeC rfl rfl rfl (str5.ext hE56) rfl (fun w7 hc7 hs7 => ⟨fun h => (nomatch h), ?_⟩)) | (refine k_pure rfl ?_) | (refine then_normal ?_) | (refine cw_seq ?_) | (refine cw_region rfl ?_) | (refine rr_nil ?_) | (refine k_fieldAddr rfl ?_))
    replace hg6 : w5.heap.size ≤ g6 := hg6
    have g6l := hb6.lt
    replace hc7 : Chg sb w6 w7 := hc7
    have b7 := hb6.chg hc7 (by omega)
    have hr7 := grp.mul _ _ pm hqg
    have pr7 := grp.perm _ hr7
    obtain ⟨r, hr⟩ : ∃ r, r = mulP pr q := ⟨_, rfl⟩
    rw [← hr] at b7 hr7 pr7
    repeat' (first | (refine k_loadC rfl hs7 rfl ?_))
    refine k_call (clone_spec (xs := r) (cap := n) b7.sl (by rw [pr7.2]; omega) (by rw [pr7.2]; omega)) (by rw [pr7.2]; rfl) ?_
    rintro v w8 ⟨g8, c8, rfl, hg8, ho8, hE8⟩
    refine ⟨fun _ _ => trivial, ?_⟩
    rw [pr7.2] at ho8 ⊢
    repeat' (first | (refine k_pure rfl ?_) | (refine then_normal ?_) | (refine rr_nil ?_) | (refine cw_ret ?_))
    have z56 := hE56.size
    have z67 : w6.heap.size = w7.heap.size := hc7.size.symm
    have z78 := hE8.size
    have F58 : Fr (One sb) w5 w8 := (hE56.fr.trans (f1C hc7)).trans hE8.fr
    have hx3 : ∀ q, q ∈ im → ¬ One sb q := fun q hq e => dis1 (by have : q = sb := e; rw [← this]; exact hq)
    have hx4 : ∀ q, q ∈ g4 :: im → ¬ One sb q := fun q hq e => by
      rcases List.mem_cons.1 hq with rfl | hq
      · have : q = sb := e; omega
      · exact hx3 q hq e
    have hmemps : ∀ k, k < (ps.set i q).length → Gen n gens ((ps.set i q).getD k []) := fun k hk => by
      rw [List.length_set] at hk
      rw [getD_set' hi]; split
      · exact hqg
      · exact mem k hk
    refine ret1 rfl (rt rfl) ⟨g8, c8, r, st3, ⟨sb, pa, pc, sds.set i ⟨ba g4, n, n⟩, ⟨ba g6, n, n⟩, g6 :: g4 :: im, ps.set i q, r⟩, rfl, by omega, ho8, hr7, hst3, Blk.f1 cb5 F58 (Ne.symm ne2), ⟨?_, ?_, ?_, b7.sl.ext hE8, by rintro _ ⟨⟩; simp, hmemps, hr7, gn, n1, ⟨ne1, ne2, ne3⟩, ?_, ?_, by simp only [List.length_set]; exact len⟩, ?_, ?_, rfl, rfl, by simp only [List.length_set], fun x hx => ?_⟩
    · have := hs7.ext hE8
      simp only [List.length_set]
      exact this
    · simp only [List.length_set]
      exact Own.f1 ho5 F58 (Ne.symm ne1)
    · exact (pls5.fr F58 hx4).mono fun x hx => List.mem_cons_of_mem _ hx
    · simp only [List.mem_cons, not_or]
      exact ⟨⟨by omega, by omega, dis1⟩, ⟨by omega, by omega, dis2⟩, ⟨by omega, by omega, dis3⟩⟩
    · intro x hx
      simp only [List.mem_cons] at hx
      rcases hx with rfl | rfl | hx
      · omega
      · omega
      · have := imlt x hx; omega
    · simp only [List.mem_cons, not_or]
      exact ⟨by omega, by omega, fun hx => by have := imlt _ hx; omega⟩
    · exact ((Fr.sub1 F13 (F := fun x => x = cb ∨ x = sb ∨ x = pa) (.inl rfl)).trans (Fr.sub1 F35 (F := fun x => x = cb ∨ x = sb ∨ x = pa) (.inr (.inr rfl)))).trans (Fr.sub1 F58 (F := fun x => x = cb ∨ x = sb ∨ x = pa) (.inr (.inl rfl)))
    · simp only [List.mem_cons] at hx
      rcases hx with rfl | rfl | hx
      · exact .inr (by omega)
      · exact .inr (by omega)
      · exact .inl hx
end Go.Proofs.Ythhfjagnmhhapaa

namespace Go.Proofs.Ythhfjagnmhhapaa
open Go.W Go.PM
theorem newSrc_spec {w : World} {n cb Tc st : Nat} {gens : List (List Int)} {ga : Option Addr} {gc : Nat} {gs : List SD} {im : List Nat} {cs : List Value} (n1 : 1 ≤ n ∧ n ≤ 512) (gn : GensN n gens) (hga : Sl w ga (gs.map SD.val)) (hgs : PsAt w n im gs gens)
    (_hgim : ∀ ad, ga = some ad → ad.block ∈ im) (himlt : ∀ g, g ∈ im → g < w.heap.size) (hg0 : 1 ≤ gens.length) (hgl : gens.length ≤ 100000000000) (hcm : cb ∉ im) (hcb0 : Blk w cb Tc cs) (ho : cs[3]? = some (.int .u64 (st : Int))) (hst : st < 18446744073709551616) :
    CallsR Try.prog 109 #[.slice ga gens.length gc, .pointer (some ⟨cb, 3, none⟩)] w fun v w' => ∃ (s : SS) (st' : Nat), v = .pointer (some ⟨s.sb, 0, none⟩) ∧ SrcAt w' n cb s gens ∧ st' < 18446744073709551616 ∧ Blk w' cb Tc (cs.set 3 (.int .u64 (st' : Int))) ∧ Fr (One cb) w w' ∧ w.heap.size ≤ s.sb ∧ w.heap.size ≤ s.pa ∧ (∀ q, q ∈ s.im → q ∈ im ∨ w.heap.size ≤ q) := by
  refine callsR_of (args := [_, _]) Try.func109 rfl rfl ?_
  have hgl' := hgs.len
  obtain ⟨⟨da, dl, dc⟩, hd⟩ : ∃ s, gs.getD 0 sd0 = s := ⟨_, rfl⟩
  have hds := hgs.sl 0 (by omega)
  have hdn := hgs.n 0 (by omega)
  have hdi := hgs.im 0 (by omega)
  rw [hd] at hds hdn hdi
  simp only at hds hdn hdi
  replace hdn := hdn.symm
  subst hdn
  obtain ⟨M, hM⟩ : ∃ M : Nat, max 10 (gens.length : Int) = (M : Int) := ⟨(max 10 (gens.length : Int)).toNat, by omega⟩
  have hM2 : 10 ≤ M ∧ gens.length ≤ M ∧ M ≤ 100000000010 := by omega
  repeat' (first | (refine k_indexN (j := 0) rfl rfl (hga.plain (by simp; omega)) (by omega) ?_) | (refine k_loadSd (j := 0) rfl hga (by omega) hd ?_) | (refine k_build (cs := srcL (.slice none 0 0) (.slice da n dc) cb 3) rfl ?_) | (refine k_boxA rfl (fun sb w1 hn1 => ⟨fun _ _ => trivial, ?_⟩)) | (refine k_max rfl rfl ?_) | (refine k_pure rfl ?_) | (refine then_normal ?_) | (refine cw_seq ?_) | (refine cw_region rfl ?_) | (refine rr_nil ?_) | (refine k_len rfl ?_) | (refine cw_block ?_))
  rw [hM]
  have z1 := hn1.lo
  have z1' := hn1.hi
  refine cw_loop (ι := Nat × Option Addr × Nat) [6, 16, 17, 18, 19, 20, 21, 22, 23, 24, 25, 26, 27, 28, 29, 30, 31, 32, 33, 34, 35] (fun s => [(16, .int .i64 (s.1 : Int))]) (fun s w' => s.1 ≤ M ∧ Ex w w' ∧ Blk w' sb 174 (srcL (.slice s.2.1 s.1 s.2.2) (.slice da n dc) cb 3) ∧ Own w' w.heap.size 110 1 s.2.1 s.1 s.2.2 (((List.range s.1).map fun i => gs.getD (i % gens.length) sd0).map SD.val) ∧ ∀ ad, s.2.1 = some ad → ad.block ≠ sb) (fun s => M - s.1)
    (0, none, 0) ⟨rfl, trivial⟩ ⟨Nat.zero_le _, hn1.ex, hn1.blk, Own.nil _ _ _ _, by rintro _ ⟨⟩⟩ ?_
  rintro ⟨k, a, c⟩ ξ w2 ⟨hk, hE2, hs2, ho2, hne2⟩
  simp only at hk hs2 ho2 hne2
  show CW _ _ _ _ (over [(16, .int .i64 (k : Int))] _) w2
  repeat' (first | (refine k_pure rfl ?_) | (refine then_normal ?_) | (refine cw_seq ?_) | (refine cw_region rfl ?_) | (refine rr_nil ?_) | (refine k_fieldAddr rfl ?_) | (refine cw_cond_dec rfl (fun hc => ?_) (fun hc => ?_)) | (refine cw_block ?_) | (refine cw_exit ?_) | (refine then_exit ?_) | (refine in_exit ?_) | (refine cw_skip ?_))
  · have hkM : k < M := by omega
    obtain ⟨j, hj⟩ : ∃ j, j = k % gens.length := ⟨_, rfl⟩
    have hjl : j < gens.length := by rw [hj]; exact Nat.mod_lt _ (by omega)
    have hje : (k : Int) % (gens.length : Int) = (j : Int) := by rw [hj, Int.natCast_emod]
    obtain ⟨⟨ea, el, ec⟩, he⟩ : ∃ s, gs.getD j sd0 = s := ⟨_, rfl⟩
    refine cw_draw (late := [16]) (plan := [(0, none), (1, none), (2, none), (3, none), (4, none), (5, none), (6, none), (7, none), (8, none), (9, none), (10, none), (11, none), (12, some true), (13, some true), (14, none), (15, none), (16, some false)]) (fun w' => Blk w' sb 174 (srcL (.slice a k c) (.slice da n dc) cb 3) ∧ Sl w' ga (gs.map SD.val)) mixed (by kernel_rfl) ⟨hs2.drew, (hga.ext hE2).drew⟩ ?_
    repeat' (first | (refine k_loadC rfl (fun _ h => h.1) rfl ?_) | (refine k_rem rfl rfl (by omega) (by omega) ?_) | (refine k_indexN (j := j) rfl (congrArg _ hje) (hga.plain (by simp; omega)) (by omega) ?_) | (refine k_loadSd (j := j) rfl (fun _ h => h.2) (by omega) he ?_) | (refine k_pure rfl ?_) | (refine k_len rfl ?_) | (refine k_fieldAddr rfl ?_))
    refine k_lit1 (v := .slice ea el ec) rfl rfl (fun lb w3 hn3 => ⟨fun _ h => ⟨h.1.ext hn3.ex, h.2.ext hn3.ex⟩, ?_⟩)
    have hE3 : Ex w w3 := hE2.drew.trans hn3.ex
    have ho3 := ho2.drew.ext hn3.ex
    have hs3 := hs2.drew.ext hn3.ex
    have hown : ∀ q, (Value.slice a k c).ownBlock = some q → w.heap.size ≤ q ∧ q ≠ sb := fun q e => by
      cases a with
      | none => simp [Value.ownBlock] at e
      | some ad =>
        simp [Value.ownBlock] at e
        rw [← e]; exact ⟨(ho2.lo ad rfl).1, hne2 ad rfl⟩
    refine k_append (z := .slice none 0 0) (s := 1) (c := 1) (m := 1) (lo := w.heap.size) (news := [.slice ea el ec]) rfl rfl rfl rfl ho3 hn3.blk.sl ⟨_, _, rfl⟩ rfl rfl (by omega) (by omega) hE3.size (fun a4 c4 w4 ho4 hg4 hA4 => ⟨fun _ h => ⟨h.1.fr (grown_fr hg4 hown) (fun h => h.2 rfl), h.2.fr (grown_fr hg4 hown) (fun ad e h => by have := hga.lt (by simp; omega) ad e; omega)⟩, ?_⟩)
    have f4 := grown_fr hg4 hown
    repeat' (first | (refine k_storeC rfl rfl rfl (hs3.fr f4 (fun h => h.2 rfl)) rfl (fun w5 hc5 hb5 => ⟨fun h => (nomatch h), ?_⟩)) | (refine k_pure rfl ?_) | (refine then_normal ?_) | (refine cw_region rfl ?_) | (refine rr_nil ?_) | (refine k_addI rfl rfl (by omega) (by omega) ?_) | (refine k_fieldAddr rfl ?_) | (refine in_normal ?_))
    obtain ⟨b4, rfl⟩ := Own.ba ho4
    have z3 := hn3.ex.size
    have z23 := hE2.size
    have z0 : w2.heap.size ≤ w3.heap.size := z3
    have hb4 : b4 ≠ sb := by
      rcases hA4 with e | e
      · exact hne2 _ e.symm
      · have := e _ rfl; have := hs2.lt; simp only at *; omega
    have hE4 : Ex w w4 := Fr.ex hE3 f4 (fun q h => h.1)
    refine ⟨⟨(k + 1, ba b4, c4), ⟨by simp only; omega, hE4.chg hc5 z1, hb5, ?_, by rintro _ ⟨⟩; exact hb4⟩, by simp only; omega, rfl, trivial⟩, (by (repeat (first | exact agree_mask _ _ _ | refine agree_upd rfl ?_ | refine agree_updO rfl ?_ | refine agree_overIn rfl ?_ | refine agree_maskIn rfl ?_)))⟩
    have := ho4.chg hc5 (by rintro _ ⟨⟩; exact hb4)
    simp only [List.range_succ, List.map_append, List.map_cons, List.map_nil, ← hj, he]
    exact this
  · obtain rfl : k = M := by omega
    obtain ⟨pa, rfl⟩ := ho2.baPos (by omega)
    have hpa := (ho2.lo _ rfl).1
    have hpne := hne2 _ rfl
    simp only at hpa hpne
    have cbl := hcb0.lt
    obtain ⟨sds, hsds⟩ : ∃ l, l = (List.range k).map fun i => gs.getD (i % gens.length) sd0 := ⟨_, rfl⟩
    obtain ⟨ps, hps⟩ : ∃ l, l = (List.range k).map fun i => gens.getD (i % gens.length) [] := ⟨_, rfl⟩
    have hpsl : ps.length = k := by rw [hps]; simp
    have hsdl : sds.length = k := by rw [hsds]; simp
    have hgetS : ∀ i, i < k → sds.getD i sd0 = gs.getD (i % gens.length) sd0 := fun i hi => by rw [hsds, List.getD_eq_getElem?_getD, List.getElem?_map, List.getElem?_range hi]; rfl
    have hgetP : ∀ i, i < k → ps.getD i [] = gens.getD (i % gens.length) [] := fun i hi => by rw [hps, List.getD_eq_getElem?_getD, List.getElem?_map, List.getElem?_range hi]; rfl
    have hmod : ∀ i, i % gens.length < gens.length := fun i => Nat.mod_lt _ (by omega)
    rw [← hsds] at ho2
    have hS0 : SrcAt w2 n cb ⟨sb, pa, c, sds, ⟨da, n, dc⟩, im, ps, gens.getD 0 []⟩ gens := by
      have hg2 := hgs.ext hE2
      refine ⟨?_, ?_, ⟨by rw [hsdl, hpsl], fun i hi => ?_, fun i hi => ?_, fun i hi => ?_⟩, hds.ext hE2, hdi, fun i hi => ?_, gen_self gn (getD_mem (by omega)), gn, n1, ⟨Ne.symm hpne, by simp only; omega, by simp only; omega⟩, ⟨fun h => ?_, fun h => ?_, hcm⟩, fun q hq => ?_, ?_⟩
      · simp only [hpsl]; exact hs2
      · simp only [hpsl]; exact ho2.mono (Nat.zero_le _)
      · simp only [hpsl] at hi ⊢; rw [hgetS i hi, hgetP i hi]; exact hg2.sl _ (hmod i)
      · simp only [hpsl] at hi ⊢; rw [hgetS i hi]; exact hg2.n _ (hmod i)
      · simp only [hpsl] at hi ⊢; rw [hgetS i hi]; exact hg2.im _ (hmod i)
      · simp only [hpsl] at hi ⊢; rw [hgetP i hi]; exact gen_self gn (getD_mem (hmod i))
      · have := himlt _ h; simp only at this; omega
      · have := himlt _ h; simp only at this; omega
      · have := himlt _ hq; have := hE2.size; simp only at *; omega
      · simp only [hpsl]; omega
    have hc2 := hcb0.ext hE2
    have hol : 3 < cs.length := (List.getElem?_eq_some_iff.1 ho).1
    have hc2' : Blk w2 cb Tc (cs.set 3 (.int .u64 (st : Int))) := by
      have : cs.set 3 (.int .u64 (st : Int)) = cs := by
        apply List.ext_getElem?; intro i
        rw [List.getElem?_set]
        by_cases e : 3 = i
        · subst e; rw [if_pos rfl, if_pos hol, ho]
        · rw [if_neg e]
      rw [this]; exact hc2
    repeat' (first | (refine k_loadC rfl hs2 rfl ?_) | (refine k_mulI rfl rfl (by omega) (by omega) ?_) | (refine k_pure rfl ?_) | (refine then_normal ?_) | (refine rr_nil ?_) | (refine k_len rfl ?_) | (refine k_addI rfl rfl (by omega) (by omega) ?_) | (refine cw_block ?_))
    refine cw_loop (ι := Nat × SS × Nat) [43, 44, 45, 46, 47] (fun s => [(43, .int .i64 (s.1 : Int))]) (fun s w' => SrcAt w' n cb s.2.1 gens ∧ s.2.2 < 18446744073709551616 ∧ Blk w' cb Tc (cs.set 3 (.int .u64 (s.2.2 : Int))) ∧ Fr (One cb) w w' ∧ s.2.1.sb = sb ∧ s.2.1.pa = pa ∧ (∀ q, q ∈ s.2.1.im → q ∈ im ∨ w.heap.size ≤ q)) (fun s => 50 + 2 * k - s.1)
      (0, ⟨sb, pa, c, sds, ⟨da, n, dc⟩, im, ps, gens.getD 0 []⟩, st) ⟨rfl, trivial⟩ ⟨hS0, hst, hc2', hE2.fr, rfl, rfl, fun q hq => .inl hq⟩ ?_
    rintro ⟨i, s, st2⟩ ξ2 w3 ⟨hS, hst2, hb3, hf3, hsb, hpa', him⟩
    simp only at hS hst2 hb3 hsb hpa' him
    show CW _ _ _ _ (over [(43, .int .i64 (i : Int))] _) w3
    repeat' (first | (refine k_pure rfl ?_) | (refine then_normal ?_) | (refine cw_seq ?_) | (refine cw_region rfl ?_) | (refine rr_nil ?_) | (refine cw_cond_dec rfl (fun hc => ?_) (fun hc => ?_)) | (refine cw_block ?_) | (refine cw_exit ?_) | (refine then_exit ?_) | (refine in_exit ?_) | (refine cw_ret ?_) | (refine cw_skip ?_))
    · refine k_call (srcNext_spec hS hb3 (by rw [List.getElem?_set_self hol]) hst2) (by rw [hsb]; rfl) ?_
      rintro v w4 ⟨g, c4, p, st4, s4, rfl, hg, _, _, hst4, hb4, hS4, _, hf4, hsb4, hpa4, _, him4⟩
      refine ⟨fun _ _ => trivial, ?_⟩
      repeat' (first | (refine k_pure rfl ?_) | (refine then_normal ?_) | (refine cw_region rfl ?_) | (refine rr_nil ?_) | (refine k_addI rfl rfl (by omega) (by omega) ?_) | (refine in_normal ?_))
      rw [List.set_set] at hb4
      have z3 := hf3.size
      refine ⟨⟨(i + 1, s4, st4), ⟨hS4, hst4, hb4, hf3.then hf4 (fun q hq h => ?_), by rw [hsb4, hsb], by rw [hpa4, hpa'], fun q hq => ?_⟩, by simp only; omega, rfl, trivial⟩, (by (repeat (first | exact agree_mask _ _ _ | refine agree_upd rfl ?_ | refine agree_updO rfl ?_ | refine agree_overIn rfl ?_ | refine agree_maskIn rfl ?_)))⟩
      · rcases h with h | h | h
        · exact h
        · omega
        · omega
      · rcases him4 q hq with h | h
        · exact him q h
        · exact .inr (by omega)
    · refine ret1 rfl (rt rfl) ⟨s, st2, by rw [hsb]; rfl, hS, hst2, hb3, hf3, by omega, by omega, him⟩
end Go.Proofs.Ythhfjagnmhhapaa

