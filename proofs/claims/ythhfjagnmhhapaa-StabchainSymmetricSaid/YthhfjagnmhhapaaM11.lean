
import Derived.Test.YthhfjagnmhhapaaM01
import Derived.Test.YthhfjagnmhhapaaM02
import Derived.Test.YthhfjagnmhhapaaM03
import Derived.Test.YthhfjagnmhhapaaM04
import Derived.Test.YthhfjagnmhhapaaM05
import Derived.Test.YthhfjagnmhhapaaM06
import Derived.Test.YthhfjagnmhhapaaM07
import Derived.Test.YthhfjagnmhhapaaM09

namespace Go.W
def rowsV (rows : List (List Nat)) : List Value := rows.flatMap fun ws => ws.map fun (n : Nat) => Value.int .u64 n
theorem rowsV_len : ∀ {rows : List (List Nat)}, (∀ r ∈ rows, r.length = 4) → (rowsV rows).length = rows.length * 4
  | [], _ => rfl
  | r :: rows, h => by
    have := rowsV_len (rows := rows) fun x hx => h x (by simp [hx])
    have h1 := h r (by simp)
    simp only [rowsV, List.flatMap_cons, List.length_append, List.length_map, List.length_cons] at *
    omega
theorem rowsV_get : ∀ {rows : List (List Nat)} {i j : Nat}, (∀ r ∈ rows, r.length = 4) → i < rows.length → j < 4 → (rowsV rows)[i * 4 + j]? = some (.int .u64 (((rows.getD i []).getD j 0 : Nat) : Int))
  | [], _, _, _, h, _ => absurd h (by simp)
  | r :: rows, 0, j, h, _, hj => by
    have h1 := h r (by simp)
    simp only [rowsV, List.flatMap_cons, Nat.zero_mul, Nat.zero_add, List.getD_cons_zero]
    rw [List.getElem?_append_left (by simp; omega), List.getElem?_map, List.getD_eq_getElem?_getD, List.getElem?_eq_getElem (by omega)]; rfl
  | r :: rows, i + 1, j, h, hi, hj => by
    have h1 := h r (by simp)
    have ih := rowsV_get (rows := rows) (i := i) (j := j) (fun x hx => h x (by simp [hx])) (by simpa using hi) hj
    simp only [rowsV, List.flatMap_cons, List.getD_cons_succ] at *
    rw [List.getElem?_append_right (by simp; omega), List.length_map, h1, show (i + 1) * 4 + j - 4 = i * 4 + j by omega]
    exact ih
section
variable {P : Program} {S : World → Prop} {ops : List Oper} {K : Env → World → Prop} {rest : List (Oper × Option Bool)} {ρ : Env} {w : World} {b : Option Bool} {kf : Bool} {d : Nat} {dst : Option Nat} {T T' : TypeId} {pos : String} {af : Array Edge}
theorem k_index4 {x ix : Operand} {a : Option Addr} {l c E y j : Nat} {k : IntKind} [hT : Slc P T' E 4 y] (hx : ev ρ x = .slice a l c) (hi : ev ρ ix = .int k (j : Int)) (ha : W.plain a)
    (h2 : j < l) (h : RR P S ops K rest (upd ρ d (.pointer (some (elt a (j * 4))))) w) :
    RR P S ops K ((⟨some d, .indexAddr T' x ix, T, pos, af, none⟩, b) :: rest) ρ w :=
  k_indexAddr hx hi ha (by omega) (by omega) (by simpa using h)
theorem k_load4 {x : Operand} {T1 : TypeId} {a : Option Addr} {j : Nat} {rows : List (List Nat)} [Agg P T1 4] (hx : ev ρ x = .pointer (some (elt a (j * 4)))) (hp : W.plain a) (hs : Rd b S w fun w' => Sl w' a (rowsV rows)) (hall : ∀ r ∈ rows, r.length = 4) (hj : j < rows.length)
    (h : RR P S ops K rest (upd ρ d (.agg ((rows.getD j []).map fun (n : Nat) => Value.int .u64 n).toArray)) w) : RR P S ops K ((⟨some d, .load T1 x, T, pos, af, none⟩, b) :: rest) ρ w := by
  obtain ⟨g, o, rfl⟩ := hp
  have hr : (rows.getD j []).length = 4 := by
    rw [List.getD_eq_getElem?_getD, List.getElem?_eq_getElem hj]; exact hall _ (List.getElem_mem hj)
  refine k_loadA (g := g) (o := o + j * 4) (by rw [hx]; rfl) (by rw [List.length_map, hr]) (hs.imp fun w' hs => ?_) h
  intro i hi
  rw [List.length_map, hr] at hi
  have hg := rowsV_get (j := i) hall hj hi
  have := hs.get (j * 4 + i) (by rw [rowsV_len hall]; omega)
  simp only [elt] at this
  rw [show o + j * 4 + i = o + (j * 4 + i) by omega, this, List.getD_eq_getElem?_getD, hg]
  generalize rows.getD j [] = ws at hr
  have hi' : i < ws.length := by omega
  simp [List.getD_eq_getElem?_getD, List.getElem?_eq_getElem hi']
end
end Go.W
namespace Go.Proofs.Ythhfjagnmhhapaa
open Go.W Go.PM
theorem mapT2 : Try.prog.underlying 197 = some (.map 3 191) := by kernel_rfl
abbrev basL (B : List (Nat × List Nat)) : List (Int × Value) := B.map fun b => ((b.1 : Int), .agg (wordsL b.2).toArray)
structure BasOK (B : List (Nat × List Nat)) : Prop where
  w4 : ∀ b ∈ B, W4 b.2
  lead : ∀ b ∈ B, Lead (bitsW b.2) b.1
  ech : Ech (B.map fun b => bitsW b.2)
theorem basOK_nil : BasOK [] := ⟨by simp, by simp, ech_nil⟩
theorem BasOK.add {B : List (Nat × List Nat)} (h : BasOK B) {i : Nat} {ws : List Nat} (hw : W4 ws) (hl : Lead (bitsW ws) i) (hn : ∀ b ∈ B, b.1 ≠ i) : BasOK (B ++ [(i, ws)]) := by
  refine ⟨fun b hb => ?_, fun b hb => ?_, ?_⟩
  · rcases List.mem_append.1 hb with hb | hb
    · exact h.w4 b hb
    · rw [List.mem_singleton] at hb; subst hb; exact hw
  · rcases List.mem_append.1 hb with hb | hb
    · exact h.lead b hb
    · rw [List.mem_singleton] at hb; subst hb; exact hl
  · refine (h.ech.cons hl fun b' hb' hl' => ?_).congr fun b => ?_
    · obtain ⟨b, hb, rfl⟩ := List.mem_map.1 hb'
      exact hn b hb ((h.lead b hb).unique hl')
    · simp only [List.mem_cons, List.map_append, List.mem_append, List.map_cons, List.map_nil, List.not_mem_nil, or_false]
      exact Or.comm
abbrev bvs (B : List (Nat × List Nat)) : List (Nat → Bool) := B.map fun b => bitsW b.2
theorem rank_spec {rows : List (List Nat)} {a : Option Addr} {cap : Nat} {w : World} (hr : Sl w a (rowsV rows)) (h4 : ∀ r ∈ rows, W4 r) (hl : rows.length ≤ 1000000000000) :
    CallsR Try.prog 149 #[.slice a rows.length cap] w fun v w' => Ex w w' ∧ ∃ B, v = .int .i64 ((B.length : Nat) : Int) ∧ BasOK B ∧ B.length ≤ rows.length ∧ ∀ r ∈ rows, Sp (bvs B) (bitsW r) := by
  refine callsR_of (args := [_]) Try.func149 rfl rfl ?_
  have hall : ∀ r ∈ rows, r.length = 4 := fun r hr => (h4 r hr).1
  repeat' (first | (refine k_makeMap (fun mb w1 hE1 hmb hm1 => ⟨fun _ _ => trivial, ?_⟩)) | (refine k_pure rfl ?_) | (refine then_normal ?_) | (refine cw_seq ?_) | (refine cw_region rfl ?_) | (refine rr_nil ?_) | (refine k_len rfl ?_) | (refine g_run rfl rfl ?_) | (refine g_skip rfl rfl ?_) | (refine g_dec_f rfl rfl (fun hc => ?_) (fun hc => ?_)) | (refine g_dec_t rfl rfl (fun hc => ?_) (fun hc => ?_)) | (refine g_ndec_f rfl rfl (fun hc => ?_) (fun hc => ?_)) | (refine g_ndec_t rfl rfl (fun hc => ?_) (fun hc => ?_)) | (refine g_split rfl rfl (fun hc => ?_) (fun hc => ?_)) | (refine k_addI rfl rfl (by omega) (by omega) ?_) | (refine k_subI rfl rfl (by omega) (by omega) ?_) | (refine k_fieldAddr rfl ?_) | (refine k_eqlB rfl rfl ?_) | (refine k_neqB rfl rfl ?_) | (refine cw_cond_true rfl ?_) | (refine cw_cond_false rfl ?_) | (refine cw_cond_dec rfl (fun hc => ?_) (fun hc => ?_)) | (refine cw_cond_ndec rfl (fun hc => ?_) (fun hc => ?_)) | (refine cw_cond rfl (fun hc => ?_) (fun hc => ?_)) | (refine cw_block ?_) | (refine cw_exit ?_) | (refine then_exit ?_) | (refine in_exit ?_) | (refine in_exit_ne rfl ?_) | (refine in_normal ?_) | (refine cw_ret ?_) | (refine then_ret ?_) | (refine in_ret ?_) | (refine cw_skip ?_))
  refine cw_loop (ι := Nat × List (Nat × List Nat)) [3, 6, 7, 8, 9, 13, 14, 15, 16, 17, 18, 19, 20, 21, 22, 23, 24, 25, 26, 27, 28, 29, 30, 31, 32, 33, 34, 35, 36, 37] (fun s => [(13, .int .i64 (s.1 : Int)), (3, .int .i64 (s.2.length : Int))]) (fun s w' => s.1 ≤ rows.length ∧ s.2.length ≤ s.1 ∧ Ex w w' ∧ MapAt w' mb (basL s.2) ∧ BasOK s.2 ∧ ∀ i, i < s.1 → Sp (bvs s.2) (bitsW (rows.getD i []))) (fun s => rows.length - s.1)
    (0, []) ⟨rfl, rfl, trivial⟩ ⟨Nat.zero_le _, Nat.le_refl _, hE1, hm1, basOK_nil, fun i hi => absurd hi (by simp)⟩ ?_
  rintro ⟨r, B⟩ ξ w2 ⟨hrl, hBl, hE2, hm2, hB, hsp⟩
  simp only at hrl hBl hm2 hB hsp
  show CW _ _ _ _ (over [(13, .int .i64 (r : Int)), (3, .int .i64 (B.length : Int))] _) w2
  have hr2 := hr.ext hE2
  repeat' (first | (refine k_index4 (j := r) rfl rfl (hr2.plain (by rw [rowsV_len hall]; omega)) (by omega) ?_) | (refine k_load4 (j := r) rfl (hr2.plain (by rw [rowsV_len hall]; omega)) hr2 hall (by omega) ?_) | (refine k_allocA (vs := wordsL [0, 0, 0, 0]) (fun gr w3 hn3 => ⟨fun _ _ => trivial, ?_⟩)) | (refine k_storeV (vs := wordsL (rows.getD r [])) rfl rfl (by rw [List.length_map]; exact hall _ (getD_mem (by omega))) (all_one (fun _ => rfl) _) hn3.blk rfl (fun w4 hc4 hb4 => ⟨fun _ _ => trivial, ?_⟩)) | (refine k_pure rfl ?_) | (refine then_normal ?_) | (refine cw_seq ?_) | (refine cw_region rfl ?_) | (refine rr_nil ?_) | (refine k_len rfl ?_) | (refine g_run rfl rfl ?_) | (refine g_skip rfl rfl ?_) | (refine g_dec_f rfl rfl (fun hc => ?_) (fun hc => ?_)) | (refine g_dec_t rfl rfl (fun hc => ?_) (fun hc => ?_)) | (refine g_ndec_f rfl rfl (fun hc => ?_) (fun hc => ?_)) | (refine g_ndec_t rfl rfl (fun hc => ?_) (fun hc => ?_)) | (refine g_split rfl rfl (fun hc => ?_) (fun hc => ?_)) | (refine k_addI rfl rfl (by omega) (by omega) ?_) | (refine k_subI rfl rfl (by omega) (by omega) ?_) | (refine k_fieldAddr rfl ?_) | (refine k_eqlB rfl rfl ?_) | (refine k_neqB rfl rfl ?_) | (refine cw_cond_true rfl ?_) | (refine cw_cond_false rfl ?_) | (refine cw_cond_dec rfl (fun hc => ?_) (fun hc => ?_)) | (refine cw_cond_ndec rfl (fun hc => ?_) (fun hc => ?_)) | (refine cw_cond rfl (fun hc => ?_) (fun hc => ?_)) | (refine cw_block ?_) | (refine cw_exit ?_) | (refine then_exit ?_) | (refine in_exit ?_) | (refine in_exit_ne rfl ?_) | (refine in_normal ?_) | (refine cw_ret ?_) | (refine then_ret ?_) | (refine in_ret ?_) | (refine cw_skip ?_))
  · have hrr : r < rows.length := by omega
    have hrow := h4 _ (getD_mem (d := []) hrr)
    obtain ⟨row, hrw⟩ : ∃ x, x = rows.getD r [] := ⟨_, rfl⟩
    rw [← hrw] at hb4 hrow
    have zr := hn3.lo
    have zw := hE2.size
    have zr' := hn3.hi
    have hgw : w.heap.size ≤ gr := by omega
    have hmr : mb ≠ gr := by have := hm2.lt; omega
    have hE4 : Ex w w4 := (hE2.trans hn3.ex).chg hc4 hgw
    have hm4 := (hm2.ext hn3.ex).chg hc4 hmr
    refine cw_loop (ι := List Nat × Nat) [3, 7, 8, 9, 17, 18, 19, 20, 21, 22, 23, 24, 25, 26, 27, 28, 29, 30, 31, 32, 33, 34, 35, 36] (fun _ => [(3, .int .i64 (B.length : Int))]) (fun s w' => Ex w w' ∧ Blk w' gr 191 (wordsL s.1) ∧ MapAt w' mb (basL B) ∧ W4 s.1 ∧ (∀ j, s.2 ≤ j → bitsW s.1 j = false) ∧ ∃ u, Sp (bvs B) u ∧ bitsW row = vx (bitsW s.1) u) (fun s => s.2)
      (row, 256) ⟨rfl, trivial⟩ ⟨hE4, hb4, hm4, hrow, fun j hj => bits_big hrow.1 hj, v0, .zero, (vx_v0 _).symm⟩ ?_
    rintro ⟨ws, k⟩ ξ2 w5 ⟨hE5, hb5, hm5, hw5, hk5, u, hu, hru⟩
    simp only at hb5 hm5 hw5 hk5 hu hru
    show CW _ _ _ _ (over [(3, .int .i64 (B.length : Int))] _) w5
    have hwl := hw5.1
    repeat' (first | (refine k_loadCA rfl hb5 (by rw [List.length_map]; exact hwl) ?_) | (refine k_pure rfl ?_) | (refine then_normal ?_) | (refine cw_seq ?_) | (refine cw_region rfl ?_) | (refine rr_nil ?_) | (refine k_len rfl ?_) | (refine g_run rfl rfl ?_) | (refine g_skip rfl rfl ?_) | (refine g_dec_f rfl rfl (fun hc => ?_) (fun hc => ?_)) | (refine g_dec_t rfl rfl (fun hc => ?_) (fun hc => ?_)) | (refine g_ndec_f rfl rfl (fun hc => ?_) (fun hc => ?_)) | (refine g_ndec_t rfl rfl (fun hc => ?_) (fun hc => ?_)) | (refine g_split rfl rfl (fun hc => ?_) (fun hc => ?_)) | (refine k_addI rfl rfl (by omega) (by omega) ?_) | (refine k_subI rfl rfl (by omega) (by omega) ?_) | (refine k_fieldAddr rfl ?_) | (refine k_eqlB rfl rfl ?_) | (refine k_neqB rfl rfl ?_) | (refine cw_cond_true rfl ?_) | (refine cw_cond_false rfl ?_) | (refine cw_cond_dec rfl (fun hc => ?_) (fun hc => ?_)) | (refine cw_cond_ndec rfl (fun hc => ?_) (fun hc => ?_)) | (refine cw_cond rfl (fun hc => ?_) (fun hc => ?_)) | (refine cw_block ?_) | (refine cw_exit ?_) | (refine then_exit ?_) | (refine in_exit ?_) | (refine in_exit_ne rfl ?_) | (refine in_normal ?_) | (refine cw_ret ?_) | (refine then_ret ?_) | (refine in_ret ?_) | (refine cw_skip ?_))
    refine k_call (leading_spec hw5) rfl ?_
    rintro v w6 ⟨hv, hE6⟩
    refine ⟨fun _ _ => trivial, ?_⟩
    have hb6 := hb5.ext hE6
    have hm6 := hm5.ext hE6
    have hEw6 := hE5.trans hE6
    have hlast : ∀ B', (∀ v, Sp (bvs B) v → Sp (bvs B') v) → Sp (bvs B') (bitsW row) → ∀ i, i < r + 1 → Sp (bvs B') (bitsW (rows.getD i [])) := fun B' hm hr' i hi => by
      by_cases e : i = r
      · subst e; rw [← hrw]; exact hr'
      · exact hm _ (hsp i (by omega))
    rcases hv with ⟨rfl, hz⟩ | ⟨i, hi, rfl, hld⟩
    · have hrz : Sp (bvs B) (bitsW row) := by rw [hru, hz, vx_comm, vx_v0]; exact hu
      repeat' (first | (refine k_pure rfl ?_) | (refine then_normal ?_) | (refine cw_seq ?_) | (refine cw_region rfl ?_) | (refine rr_nil ?_) | (refine k_len rfl ?_) | (refine g_run rfl rfl ?_) | (refine g_skip rfl rfl ?_) | (refine g_dec_f rfl rfl (fun hc => ?_) (fun hc => ?_)) | (refine g_dec_t rfl rfl (fun hc => ?_) (fun hc => ?_)) | (refine g_ndec_f rfl rfl (fun hc => ?_) (fun hc => ?_)) | (refine g_ndec_t rfl rfl (fun hc => ?_) (fun hc => ?_)) | (refine g_split rfl rfl (fun hc => ?_) (fun hc => ?_)) | (refine k_addI rfl rfl (by omega) (by omega) ?_) | (refine k_subI rfl rfl (by omega) (by omega) ?_) | (refine k_fieldAddr rfl ?_) | (refine k_eqlB rfl rfl ?_) | (refine k_neqB rfl rfl ?_) | (refine cw_cond_true rfl ?_) | (refine cw_cond_false rfl ?_) | (refine cw_cond_dec rfl (fun hc => ?_) (fun hc => ?_)) | (refine cw_cond_ndec rfl (fun hc => ?_) (fun hc => ?_)) | (refine cw_cond rfl (fun hc => ?_) (fun hc => ?_)) | (refine cw_block ?_) | (refine cw_exit ?_) | (refine then_exit ?_) | (refine in_exit ?_) | (refine in_exit_ne rfl ?_) | (refine in_normal ?_) | (refine cw_ret ?_) | (refine then_ret ?_) | (refine in_ret ?_) | (refine cw_skip ?_))
      refine ⟨⟨(r + 1, B), ⟨by simp only; omega, by simp only; omega, hEw6, hm6, hB, hlast B (fun _ h => h) hrz⟩, by simp only; omega, rfl, rfl, trivial⟩, (by (repeat (first | exact agree_mask _ _ _ | refine agree_upd rfl ?_ | refine agree_updO rfl ?_ | refine agree_overIn rfl ?_ | refine agree_maskIn rfl ?_)))⟩
    · have hik : i < k := Classical.byContradiction fun h => by have := hk5 i (by omega); rw [hld.1] at this; cases this
      repeat' (first | (refine k_lookupOk (z := .agg (wordsL [0, 0, 0, 0]).toArray) mapT2 intT rfl rfl hm6 ?_) | (refine k_pure rfl ?_) | (refine then_normal ?_) | (refine cw_seq ?_) | (refine cw_region rfl ?_) | (refine rr_nil ?_) | (refine k_len rfl ?_) | (refine g_run rfl rfl ?_) | (refine g_skip rfl rfl ?_) | (refine g_dec_f rfl rfl (fun hc => ?_) (fun hc => ?_)) | (refine g_dec_t rfl rfl (fun hc => ?_) (fun hc => ?_)) | (refine g_ndec_f rfl rfl (fun hc => ?_) (fun hc => ?_)) | (refine g_ndec_t rfl rfl (fun hc => ?_) (fun hc => ?_)) | (refine g_split rfl rfl (fun hc => ?_) (fun hc => ?_)) | (refine k_addI rfl rfl (by omega) (by omega) ?_) | (refine k_subI rfl rfl (by omega) (by omega) ?_) | (refine k_fieldAddr rfl ?_) | (refine k_eqlB rfl rfl ?_) | (refine k_neqB rfl rfl ?_) | (refine cw_cond_true rfl ?_) | (refine cw_cond_false rfl ?_) | (refine cw_cond_dec rfl (fun hc => ?_) (fun hc => ?_)) | (refine cw_cond_ndec rfl (fun hc => ?_) (fun hc => ?_)) | (refine cw_cond rfl (fun hc => ?_) (fun hc => ?_)) | (refine cw_block ?_) | (refine cw_exit ?_) | (refine then_exit ?_) | (refine in_exit ?_) | (refine in_exit_ne rfl ?_) | (refine in_normal ?_) | (refine cw_ret ?_) | (refine then_ret ?_) | (refine in_ret ?_) | (refine cw_skip ?_))
      cases hf : findK (i : Int) (basL B) 0 with
      | none =>
        have hno : ∀ b ∈ B, b.1 ≠ i := fun b hb e => findK_no hf ((b.1 : Int), _) (List.mem_map.2 ⟨b, hb, rfl⟩) (by simp only; omega)
        have hB' := hB.add hw5 hld hno
        have hmono : ∀ v, Sp (bvs B) v → Sp (bvs (B ++ [(i, ws)])) v := fun v h => h.mono fun b hb => by simp only [bvs, List.map_append, List.mem_append]; exact .inl hb
        have hrz : Sp (bvs (B ++ [(i, ws)])) (bitsW row) := by
          rw [hru, vx_comm]
          exact .add (hmono u hu) (by simp [bvs])
        repeat' (first | (refine k_extract rfl rfl ?_) | (refine k_allocA (vs := wordsL [0, 0, 0, 0]) (fun g8 w7 hn7 => ⟨fun _ _ => trivial, ?_⟩)) | (refine k_storeV (vs := wordsL [0, 0, 0, 0]) rfl rfl rfl rfl hn7.blk rfl (fun w8 hc8 hb8 => ⟨fun _ _ => trivial, ?_⟩)) | (refine k_pure rfl ?_) | (refine then_normal ?_) | (refine cw_seq ?_) | (refine cw_region rfl ?_) | (refine rr_nil ?_) | (refine k_len rfl ?_) | (refine g_run rfl rfl ?_) | (refine g_skip rfl rfl ?_) | (refine g_dec_f rfl rfl (fun hc => ?_) (fun hc => ?_)) | (refine g_dec_t rfl rfl (fun hc => ?_) (fun hc => ?_)) | (refine g_ndec_f rfl rfl (fun hc => ?_) (fun hc => ?_)) | (refine g_ndec_t rfl rfl (fun hc => ?_) (fun hc => ?_)) | (refine g_split rfl rfl (fun hc => ?_) (fun hc => ?_)) | (refine k_addI rfl rfl (by omega) (by omega) ?_) | (refine k_subI rfl rfl (by omega) (by omega) ?_) | (refine k_fieldAddr rfl ?_) | (refine k_eqlB rfl rfl ?_) | (refine k_neqB rfl rfl ?_) | (refine cw_cond_true rfl ?_) | (refine cw_cond_false rfl ?_) | (refine cw_cond_dec rfl (fun hc => ?_) (fun hc => ?_)) | (refine cw_cond_ndec rfl (fun hc => ?_) (fun hc => ?_)) | (refine cw_cond rfl (fun hc => ?_) (fun hc => ?_)) | (refine cw_block ?_) | (refine cw_exit ?_) | (refine then_exit ?_) | (refine in_exit ?_) | (refine in_exit_ne rfl ?_) | (refine in_normal ?_) | (refine cw_ret ?_) | (refine then_ret ?_) | (refine in_ret ?_) | (refine cw_skip ?_))
        have hE8 : Ex w w8 := (hEw6.trans hn7.ex).chg hc8 (by have := hEw6.size; have := hn7.lo; omega)
        have hb8r := (hb6.ext hn7.ex).chg hc8 (by have := hb6.lt; have := hn7.lo; omega)
        have hm8 := (hm6.ext hn7.ex).chg hc8 (by have := hm6.lt; have := hn7.lo; omega)
        repeat' (first | (refine k_extract rfl rfl ?_) | (refine k_loadCA rfl hb8r (by rw [List.length_map]; exact hwl) ?_) | (refine k_mapNew (v := .agg (wordsL ws).toArray) mapT2 intT rfl rfl rfl hm8 (fun p hp e => by obtain ⟨b, hb, rfl⟩ := List.mem_map.1 hp; exact hno b hb (by simp only at e; omega)) (fun w9 hc9 hm9 => ⟨fun _ _ => trivial, ?_⟩)) | (refine k_pure rfl ?_) | (refine then_normal ?_) | (refine cw_seq ?_) | (refine cw_region rfl ?_) | (refine rr_nil ?_) | (refine k_len rfl ?_) | (refine g_run rfl rfl ?_) | (refine g_skip rfl rfl ?_) | (refine g_dec_f rfl rfl (fun hc => ?_) (fun hc => ?_)) | (refine g_dec_t rfl rfl (fun hc => ?_) (fun hc => ?_)) | (refine g_ndec_f rfl rfl (fun hc => ?_) (fun hc => ?_)) | (refine g_ndec_t rfl rfl (fun hc => ?_) (fun hc => ?_)) | (refine g_split rfl rfl (fun hc => ?_) (fun hc => ?_)) | (refine k_addI rfl rfl (by omega) (by omega) ?_) | (refine k_subI rfl rfl (by omega) (by omega) ?_) | (refine k_fieldAddr rfl ?_) | (refine k_eqlB rfl rfl ?_) | (refine k_neqB rfl rfl ?_) | (refine cw_cond_true rfl ?_) | (refine cw_cond_false rfl ?_) | (refine cw_cond_dec rfl (fun hc => ?_) (fun hc => ?_)) | (refine cw_cond_ndec rfl (fun hc => ?_) (fun hc => ?_)) | (refine cw_cond rfl (fun hc => ?_) (fun hc => ?_)) | (refine cw_block ?_) | (refine cw_exit ?_) | (refine then_exit ?_) | (refine in_exit ?_) | (refine in_exit_ne rfl ?_) | (refine in_normal ?_) | (refine cw_ret ?_) | (refine then_ret ?_) | (refine in_ret ?_) | (refine cw_skip ?_))
        have hm9' : MapAt w9 mb (basL (B ++ [(i, ws)])) := by unfold basL; rw [List.map_append]; exact hm9
        refine ⟨⟨(r + 1, B ++ [(i, ws)]), ⟨by simp only; omega, by simp only [List.length_append, List.length_singleton]; omega, hE8.chg hc9 hmb, hm9', hB', hlast _ hmono hrz⟩, by simp only; omega, rfl, ?_, trivial⟩, (by (repeat (first | exact agree_mask _ _ _ | refine agree_upd rfl ?_ | refine agree_updO rfl ?_ | refine agree_overIn rfl ?_ | refine agree_maskIn rfl ?_)))⟩
        show Value.int .i64 ((B.length : Int) + 1) = _
        simp only [List.length_append, List.length_singleton]; rfl
      | some jv =>
        obtain ⟨jj, vv⟩ := jv
        have hmem := findK_yes hf
        obtain ⟨b, hb, e⟩ := List.mem_map.1 hmem
        simp only [Prod.mk.injEq] at e
        obtain ⟨e1, rfl⟩ := e
        have e1' : b.1 = i := by omega
        have hbw := hB.w4 b hb
        have hbl := hB.lead b hb
        rw [e1'] at hbl
        repeat' (first | (refine k_extract rfl rfl ?_) | (refine k_allocA (vs := wordsL [0, 0, 0, 0]) (fun g8 w7 hn7 => ⟨fun _ _ => trivial, ?_⟩)) | (refine k_storeV (vs := wordsL b.2) rfl rfl (by rw [List.length_map]; exact hbw.1) (all_one (fun _ => rfl) _) hn7.blk rfl (fun w8 hc8 hb8 => ⟨fun _ _ => trivial, ?_⟩)) | (refine k_pure rfl ?_) | (refine then_normal ?_) | (refine cw_seq ?_) | (refine cw_region rfl ?_) | (refine rr_nil ?_) | (refine k_len rfl ?_) | (refine g_run rfl rfl ?_) | (refine g_skip rfl rfl ?_) | (refine g_dec_f rfl rfl (fun hc => ?_) (fun hc => ?_)) | (refine g_dec_t rfl rfl (fun hc => ?_) (fun hc => ?_)) | (refine g_ndec_f rfl rfl (fun hc => ?_) (fun hc => ?_)) | (refine g_ndec_t rfl rfl (fun hc => ?_) (fun hc => ?_)) | (refine g_split rfl rfl (fun hc => ?_) (fun hc => ?_)) | (refine k_addI rfl rfl (by omega) (by omega) ?_) | (refine k_subI rfl rfl (by omega) (by omega) ?_) | (refine k_fieldAddr rfl ?_) | (refine k_eqlB rfl rfl ?_) | (refine k_neqB rfl rfl ?_) | (refine cw_cond_true rfl ?_) | (refine cw_cond_false rfl ?_) | (refine cw_cond_dec rfl (fun hc => ?_) (fun hc => ?_)) | (refine cw_cond_ndec rfl (fun hc => ?_) (fun hc => ?_)) | (refine cw_cond rfl (fun hc => ?_) (fun hc => ?_)) | (refine cw_block ?_) | (refine cw_exit ?_) | (refine then_exit ?_) | (refine in_exit ?_) | (refine in_exit_ne rfl ?_) | (refine in_normal ?_) | (refine cw_ret ?_) | (refine then_ret ?_) | (refine in_ret ?_) | (refine cw_skip ?_))
        have hE8 : Ex w w8 := (hEw6.trans hn7.ex).chg hc8 (by have := hEw6.size; have := hn7.lo; omega)
        have hb8r := (hb6.ext hn7.ex).chg hc8 (by have := hb6.lt; have := hn7.lo; omega)
        have hm8 := (hm6.ext hn7.ex).chg hc8 (by have := hm6.lt; have := hn7.lo; omega)
        repeat' (first | (refine k_extract rfl rfl ?_) | (refine k_loadCA rfl hb8r (by rw [List.length_map]; exact hwl) ?_) | (refine k_loadCA rfl hb8 (by rw [List.length_map]; exact hbw.1) ?_) | (refine k_pure rfl ?_) | (refine then_normal ?_) | (refine cw_seq ?_) | (refine cw_region rfl ?_) | (refine rr_nil ?_) | (refine k_len rfl ?_) | (refine g_run rfl rfl ?_) | (refine g_skip rfl rfl ?_) | (refine g_dec_f rfl rfl (fun hc => ?_) (fun hc => ?_)) | (refine g_dec_t rfl rfl (fun hc => ?_) (fun hc => ?_)) | (refine g_ndec_f rfl rfl (fun hc => ?_) (fun hc => ?_)) | (refine g_ndec_t rfl rfl (fun hc => ?_) (fun hc => ?_)) | (refine g_split rfl rfl (fun hc => ?_) (fun hc => ?_)) | (refine k_addI rfl rfl (by omega) (by omega) ?_) | (refine k_subI rfl rfl (by omega) (by omega) ?_) | (refine k_fieldAddr rfl ?_) | (refine k_eqlB rfl rfl ?_) | (refine k_neqB rfl rfl ?_) | (refine cw_cond_true rfl ?_) | (refine cw_cond_false rfl ?_) | (refine cw_cond_dec rfl (fun hc => ?_) (fun hc => ?_)) | (refine cw_cond_ndec rfl (fun hc => ?_) (fun hc => ?_)) | (refine cw_cond rfl (fun hc => ?_) (fun hc => ?_)) | (refine cw_block ?_) | (refine cw_exit ?_) | (refine then_exit ?_) | (refine in_exit ?_) | (refine in_exit_ne rfl ?_) | (refine in_normal ?_) | (refine cw_ret ?_) | (refine then_ret ?_) | (refine in_ret ?_) | (refine cw_skip ?_))
        refine k_call (plus_spec hw5 hbw) rfl ?_
        rintro v w9 ⟨rfl, hE9⟩
        refine ⟨fun _ _ => trivial, ?_⟩
        have hwx := hw5.xor hbw
        repeat' (first | (refine k_storeV (vs := wordsL (xorW ws b.2 4)) rfl rfl (by rw [List.length_map]; exact hwx.1) (all_one (fun _ => rfl) _) (hb8r.ext hE9) (by rw [List.length_map]; exact hwl) (fun w10 hc10 hb10 => ⟨fun _ _ => trivial, ?_⟩)) | (refine k_pure rfl ?_) | (refine then_normal ?_) | (refine cw_seq ?_) | (refine cw_region rfl ?_) | (refine rr_nil ?_) | (refine k_len rfl ?_) | (refine g_run rfl rfl ?_) | (refine g_skip rfl rfl ?_) | (refine g_dec_f rfl rfl (fun hc => ?_) (fun hc => ?_)) | (refine g_dec_t rfl rfl (fun hc => ?_) (fun hc => ?_)) | (refine g_ndec_f rfl rfl (fun hc => ?_) (fun hc => ?_)) | (refine g_ndec_t rfl rfl (fun hc => ?_) (fun hc => ?_)) | (refine g_split rfl rfl (fun hc => ?_) (fun hc => ?_)) | (refine k_addI rfl rfl (by omega) (by omega) ?_) | (refine k_subI rfl rfl (by omega) (by omega) ?_) | (refine k_fieldAddr rfl ?_) | (refine k_eqlB rfl rfl ?_) | (refine k_neqB rfl rfl ?_) | (refine cw_cond_true rfl ?_) | (refine cw_cond_false rfl ?_) | (refine cw_cond_dec rfl (fun hc => ?_) (fun hc => ?_)) | (refine cw_cond_ndec rfl (fun hc => ?_) (fun hc => ?_)) | (refine cw_cond rfl (fun hc => ?_) (fun hc => ?_)) | (refine cw_block ?_) | (refine cw_exit ?_) | (refine then_exit ?_) | (refine in_exit ?_) | (refine in_exit_ne rfl ?_) | (refine in_normal ?_) | (refine cw_ret ?_) | (refine then_ret ?_) | (refine in_ret ?_) | (refine cw_skip ?_))
        refine ⟨⟨(xorW ws b.2 4, i), ⟨(hE8.trans hE9).chg hc10 hgw, hb10, (hm8.ext hE9).chg hc10 hmr, hwx, fun j hj => ?_, vx u (bitsW b.2), .add hu (List.mem_map.2 ⟨b, hb, rfl⟩), ?_⟩, hik, rfl, trivial⟩, (by (repeat (first | exact agree_mask _ _ _ | refine agree_upd rfl ?_ | refine agree_updO rfl ?_ | refine agree_overIn rfl ?_ | refine agree_maskIn rfl ?_)))⟩
        · rw [bits_xor hw5.1 hbw.1]; exact lead_vx hld hbl j hj
        · rw [bits_xor hw5.1 hbw.1, hru, vx_comm u, vx_assoc, ← vx_assoc (bitsW b.2), vx_self, vx_comm v0, vx_v0]
  · obtain rfl : r = rows.length := by omega
    refine ret1 rfl (rt rfl) ⟨hE2, B, rfl, hB, hBl, fun x hx => ?_⟩
    obtain ⟨i, hi, e⟩ := List.getElem_of_mem hx
    have := hsp i hi
    rw [List.getD_eq_getElem?_getD, List.getElem?_eq_getElem hi, Option.getD_some, e] at this
    exact this
end Go.Proofs.Ythhfjagnmhhapaa

/- The bound on the order of a group: plain laws for the program's computation. -/
namespace Go.PM
theorem cnt_snoc (c : Nat → Nat) (r : Nat) : ∀ d a, cntF c r a (d + 1) = cntF c r a d + (if c (a + d) = r then 1 else 0)
  | 0, a => by simp [cntF]
  | d + 1, a => by
    rw [cntF, cnt_snoc c r d (a + 1), show a + 1 + d = a + (d + 1) by omega, cntF]; omega
theorem cnt_le (c : Nat → Nat) (r : Nat) : ∀ d a, cntF c r a d ≤ d
  | 0, _ => Nat.le_refl _
  | d + 1, a => by have := cnt_le c r d (a + 1); rw [cntF]; split <;> omega
theorem cnt_ge {c : Nat → Nat} {r n : Nat} {a b : Nat} (ha : a < n) (hb : b < n) (hab : a ≠ b) (h1 : c a = r) (h2 : c b = r) : 2 ≤ cntF c r 0 n := by
  rw [← listF_len]
  refine nodup_le (l := [(a : Int), (b : Int)]) (by simp; omega) fun x hx => ?_
  simp only [List.mem_cons, List.not_mem_nil, or_false] at hx
  rcases hx with rfl | rfl
  · exact mem_listF c r n 0 a (by omega) (by omega) h1
  · exact mem_listF c r n 0 b (by omega) (by omega) h2
def bigs (sz : Nat → Nat) : Nat → List Nat
  | 0 => []
  | k + 1 => if 2 ≤ sz k then bigs sz k ++ [k] else bigs sz k
theorem bigs_len (sz : Nat → Nat) : ∀ k, (bigs sz k).length ≤ k
  | 0 => Nat.le_refl _
  | k + 1 => by have := bigs_len sz k; rw [bigs]; split <;> simp <;> omega
theorem mem_bigs {sz : Nat → Nat} : ∀ {k r : Nat}, r ∈ bigs sz k ↔ r < k ∧ 2 ≤ sz r
  | 0, r => by simp [bigs]
  | k + 1, r => by
    rw [bigs]
    split
    · rename_i h
      rw [List.mem_append, mem_bigs, List.mem_singleton]
      constructor
      · rintro (⟨h1, h2⟩ | rfl)
        · exact ⟨by omega, h2⟩
        · exact ⟨by omega, h⟩
      · rintro ⟨h1, h2⟩
        by_cases e : r = k
        · exact .inr e
        · exact .inl ⟨by omega, h2⟩
    · rename_i h
      rw [mem_bigs]
      constructor
      · rintro ⟨h1, h2⟩; exact ⟨by omega, h2⟩
      · rintro ⟨h1, h2⟩
        exact ⟨by have : r ≠ k := by rintro rfl; exact h h2
                  omega, h2⟩
theorem bigs_nodup (sz : Nat → Nat) : ∀ k, (bigs sz k).Nodup
  | 0 => by simp [bigs]
  | k + 1 => by
    rw [bigs]; split
    · rw [List.nodup_append]
      refine ⟨bigs_nodup sz k, by simp, fun a ha b hb => ?_⟩
      rw [List.mem_singleton] at hb; subst hb
      rintro rfl
      have := (mem_bigs.1 ha).1
      omega
    · exact bigs_nodup sz k
theorem bigs_pre {sz : Nat → Nat} : ∀ {k r : Nat}, r ≤ k → ∃ t, bigs sz k = bigs sz r ++ t
  | 0, r, h => by obtain rfl : r = 0 := by omega
                  exact ⟨[], by simp⟩
  | k + 1, r, h => by
    by_cases e : r = k + 1
    · subst e; exact ⟨[], by simp⟩
    · obtain ⟨t, ht⟩ := bigs_pre (sz := sz) (show r ≤ k by omega)
      rw [bigs]; split
      · exact ⟨t ++ [k], by rw [ht, List.append_assoc]⟩
      · exact ⟨t, ht⟩
def nameF (sz : Nat → Nat) (r : Nat) : Int := if 2 ≤ sz r then ((bigs sz r).length : Int) else -1
theorem bigs_at {sz : Nat → Nat} {n r : Nat} (hr : r < n) (h : 2 ≤ sz r) : (bigs sz r).length < (bigs sz n).length ∧ (bigs sz n).getD (bigs sz r).length 0 = r := by
  obtain ⟨t, ht⟩ := bigs_pre (sz := sz) (show r + 1 ≤ n by omega)
  have e : bigs sz (r + 1) = bigs sz r ++ [r] := by rw [bigs, if_pos h]
  rw [ht, e]
  refine ⟨by simp, ?_⟩
  rw [List.getD_eq_getElem?_getD, List.append_assoc, List.getElem?_append_right (Nat.le_refl _)]; simp
theorem name_iff {sz : Nat → Nat} {n r o : Nat} (hr : r < n) (h : 2 ≤ sz r) (ho : o < (bigs sz n).length) : nameF sz r = (o : Int) ↔ r = (bigs sz n).getD o 0 := by
  obtain ⟨h1, h2⟩ := bigs_at hr h
  have h1' := h1
  unfold nameF
  rw [if_pos h]
  constructor
  · intro e
    have e' : (bigs sz r).length = o := by omega
    rw [← e']; exact h2.symm
  · intro e
    have h3 : (bigs sz n).getD (bigs sz r).length 0 = (bigs sz n).getD o 0 := h2.trans e
    rw [List.getD_eq_getElem?_getD, List.getD_eq_getElem?_getD, List.getElem?_eq_getElem h1', List.getElem?_eq_getElem ho] at h3
    have := (List.getElem_inj (bigs_nodup sz n)).1 h3
    omega
theorem rep_inj {sz : Nat → Nat} {n o o' : Nat} (ho : o < (bigs sz n).length) (ho' : o' < (bigs sz n).length) (h : (bigs sz n).getD o 0 = (bigs sz n).getD o' 0) : o = o' := by
  rw [List.getD_eq_getElem?_getD, List.getD_eq_getElem?_getD, List.getElem?_eq_getElem ho, List.getElem?_eq_getElem ho'] at h
  exact (List.getElem_inj (bigs_nodup sz n)).1 h
theorem rep_big {sz : Nat → Nat} {n o : Nat} (ho : o < (bigs sz n).length) : (bigs sz n).getD o 0 < n ∧ 2 ≤ sz ((bigs sz n).getD o 0) := mem_bigs.1 (getD_mem ho)
theorem flip_big {n : Nat} {c : Nat → Nat} {p : List Int} (h : Keep n c 0 p) {x : Nat} (hx : x < n) (hf : flipAt p x = true) : 2 ≤ cntF c (c x) 0 n := by
  have ix : In p (x : Int) := by unfold In; rw [h.1.2]; omega
  unfold flipAt at hf
  rw [Bool.and_eq_true] at hf
  have he : per p x % 2 = 0 := by simpa using hf.2
  have h1 := (cyc_spec h.1.1 ix).1
  have hne : ap p (x : Int) ≠ x := fun e => by have := (per_one h.1.1 ix).2 e; omega
  have hr := h.1.ap (x := (x : Int)) (by omega)
  exact cnt_ge (a := x) (b := (ap p x).toNat) hx (by omega) (by omega) rfl (h.2.1 x hx)
theorem vec_eq {n : Nat} {c : Nat → Nat} {p : List Int} (h : Keep n c 0 p) (hc : ∀ x, x < n → c x < n) {f : Nat → Int} (hf : ∀ x, x < n → f x = nameF (fun r => cntF c r 0 n) (c x)) (o : Nat) :
    sgO p f o n = vec n c (bigs (fun r => cntF c r 0 n) n).length (fun o => (bigs (fun r => cntF c r 0 n) n).getD o 0) p o := by
  unfold vec
  by_cases ho : o < (bigs (fun r => cntF c r 0 n) n).length
  · rw [decide_eq_true ho, Bool.true_and, sg_eq h]
    have : ∀ k, k ≤ n → sgO p f o k = sgO p (fun x => (c x : Int)) ((bigs (fun r => cntF c r 0 n) n).getD o 0 : Nat) k := by
      intro k
      induction k with
      | zero => intro _; rfl
      | succ k ih =>
        intro hk
        rw [sgO, sgO, ih (by omega)]
        congr 1
        cases hfl : flipAt p k with
        | false => rfl
        | true =>
          rw [Bool.true_and, Bool.true_and]
          have hb := flip_big h (show k < n by omega) hfl
          have hi := name_iff (sz := fun r => cntF c r 0 n) (hc k (by omega)) hb ho
          rw [hf k (by omega)]
          by_cases e : nameF (fun r => cntF c r 0 n) (c k) = (o : Int)
          · rw [decide_eq_true e, decide_eq_true]
            rw [← hi.1 e]
          · rw [decide_eq_false e, decide_eq_false]
            intro e'; exact e (hi.2 (by omega))
    exact this n (Nat.le_refl _)
  · rw [decide_eq_false ho, Bool.false_and]
    have : ∀ k, k ≤ n → sgO p f o k = false := by
      intro k
      induction k with
      | zero => intro _; rfl
      | succ k ih =>
        intro hk
        rw [sgO, ih (by omega), Bool.false_xor]
        cases hfl : flipAt p k with
        | false => rfl
        | true =>
          rw [Bool.true_and]
          have hb := flip_big h (show k < n by omega) hfl
          have hi := (bigs_at (sz := fun r => cntF c r 0 n) (hc k (by omega)) hb).1
          refine decide_eq_false ?_
          rw [hf k (by omega)]
          unfold nameF
          rw [if_pos hb]; omega
    exact this n (Nat.le_refl _)
end Go.PM

