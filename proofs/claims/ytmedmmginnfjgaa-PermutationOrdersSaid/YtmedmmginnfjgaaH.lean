import Derived.Test.YtmedmmginnfjgaaA
import Derived.Test.YtmedmmginnfjgaaBfs
namespace Go.Proofs.Ytmedmmginnfjgaa
open Go.W Go.PM

/-- what a callback keeps in its block -/
abbrev Keeps (J : List (Int × Nat × Int) → List Value → Prop) (cb Tc : Nat) (es : List (Int × Nat × Int)) (w : World) : Prop := ∃ cs, Blk w cb Tc cs ∧ J es cs

theorem search_spec {n x : Nat} {gens : List (List Int)} {ga : Option Addr} {sds : List SD} {w0 w : World} {fcb cb Tc : Nat} {cap : Array Value} {J : List (Int × Nat × Int) → List Value → Prop} [Fun Try.prog fcb]
    (hg : Lists w0 .i64 ga sds gens) (hG : Gens n gens) (hgl : gens.length ≤ 64) (hn : n ≤ 512) (hx : x < n) (hE0 : Ex w0 w) (hcb : w0.heap.size ≤ cb) (hcb2 : cb < w.heap.size) (hJ : Keeps J cb Tc [] w)
    (hcall : ∀ es (y : Int) (j : Nat) z w1, w.grownBy w1 (some cb) → Keeps J cb Tc es w1 → 0 ≤ y → y < n → CallsR Try.prog fcb (#[Value.int .i64 y, .int .i64 (j : Int), .int .i64 z] ++ cap) w1 fun _ w' => Keeps J cb Tc (es ++ [(y, j, z)]) w' ∧ w1.grownBy w' (some cb)) (gc : Nat) :
    CallsR Try.prog 68 #[.slice ga gens.length gc, .int .i64 (x : Int), .func (.func fcb) #[] cap] w fun v w' =>
      ∃ b c, v = .slice b (bfs gens n x).1.length c ∧ Own w' w.heap.size 3 1 b (bfs gens n x).1.length c (intsL (bfs gens n x).1) ∧ Keeps J cb Tc (bfs gens n x).2 w' ∧ w.grownBy w' (some cb) ∧ Ex w0 w' := by
  refine callsR_of (args := [_, _, _]) Try.func68 rfl rfl ?_
  repeat' (first | (refine k_litI1 rfl (fun gp w1 hn1 => ⟨fun _ _ => trivial, ?_⟩)) | (refine k_build0 (cs := wordsL [0, 0, 0, 0, 0, 0, 0, 0]) ?_) | (refine k_pure rfl ?_) | (refine then_normal ?_) | (refine cw_seq ?_) | (refine cw_region rfl ?_) | (refine rr_nil ?_) | (refine k_len rfl ?_) | (refine g_run rfl rfl ?_) | (refine g_skip rfl rfl ?_) | (refine g_dec_f rfl rfl (fun hc => ?_) (fun hc => ?_)) | (refine g_dec_t rfl rfl (fun hc => ?_) (fun hc => ?_)) | (refine g_ndec_f rfl rfl (fun hc => ?_) (fun hc => ?_)) | (refine g_ndec_t rfl rfl (fun hc => ?_) (fun hc => ?_)) | (refine g_split rfl rfl (fun hc => ?_) (fun hc => ?_)) | (refine k_addI rfl rfl (by omega) (by omega) ?_) | (refine k_subI rfl rfl (by omega) (by omega) ?_) | (refine k_fieldAddr rfl ?_) | (refine k_eqlB rfl rfl ?_) | (refine k_neqB rfl rfl ?_) | (refine cw_cond_true rfl ?_) | (refine cw_cond_false rfl ?_) | (refine cw_cond_dec rfl (fun hc => ?_) (fun hc => ?_)) | (refine cw_cond_ndec rfl (fun hc => ?_) (fun hc => ?_)) | (refine cw_cond rfl (fun hc => ?_) (fun hc => ?_)) | (refine cw_block ?_) | (refine cw_exit ?_) | (refine then_exit ?_) | (refine in_exit ?_) | (refine in_exit_ne rfl ?_) | (refine in_normal ?_) | (refine cw_ret ?_) | (refine then_ret ?_) | (refine in_ret ?_) | (refine cw_skip ?_))
  refine k_call (with_spec setOf_nil _ (by omega) (by omega) _) rfl ?_
  rintro v w2 ⟨ws0, rfl, hS0, hE2⟩
  refine ⟨fun _ _ => trivial, ?_⟩
  refine k_alloc (fun g8 w3 hn3 => ⟨fun _ _ => trivial, ?_⟩)
  have hb8 : Blk w3 g8 80 (wordsL [0, 0, 0, 0, 0, 0, 0, 0]) := hn3.blk
  refine k_storeV (n := 8) rfl rfl (by simp [hS0.len]) (all_one (fun _ => rfl) _) hb8 rfl (fun w4 hc4 hb4 => ⟨fun _ _ => trivial, ?_⟩)
  repeat' (first | (refine k_pure rfl ?_) | (refine then_normal ?_) | (refine cw_seq ?_) | (refine cw_region rfl ?_) | (refine rr_nil ?_) | (refine k_len rfl ?_) | (refine g_run rfl rfl ?_) | (refine g_skip rfl rfl ?_) | (refine g_dec_f rfl rfl (fun hc => ?_) (fun hc => ?_)) | (refine g_dec_t rfl rfl (fun hc => ?_) (fun hc => ?_)) | (refine g_ndec_f rfl rfl (fun hc => ?_) (fun hc => ?_)) | (refine g_ndec_t rfl rfl (fun hc => ?_) (fun hc => ?_)) | (refine g_split rfl rfl (fun hc => ?_) (fun hc => ?_)) | (refine k_addI rfl rfl (by omega) (by omega) ?_) | (refine k_subI rfl rfl (by omega) (by omega) ?_) | (refine k_fieldAddr rfl ?_) | (refine k_eqlB rfl rfl ?_) | (refine k_neqB rfl rfl ?_) | (refine cw_cond_true rfl ?_) | (refine cw_cond_false rfl ?_) | (refine cw_cond_dec rfl (fun hc => ?_) (fun hc => ?_)) | (refine cw_cond_ndec rfl (fun hc => ?_) (fun hc => ?_)) | (refine cw_cond rfl (fun hc => ?_) (fun hc => ?_)) | (refine cw_block ?_) | (refine cw_exit ?_) | (refine then_exit ?_) | (refine in_exit ?_) | (refine in_exit_ne rfl ?_) | (refine in_normal ?_) | (refine cw_ret ?_) | (refine then_ret ?_) | (refine in_ret ?_) | (refine cw_skip ?_))
  have s1 := hn1.ex.size
  have s2 := hE2.size
  have s3 := hn3.lo
  have hgp := hn1.lo
  have hgp2 := hn1.hi
  have hg8 : w.heap.size ≤ g8 := by omega
  have hgb3 : w.grownBy w3 (some cb) := gb_trans (gb_trans (gb_trans ⟨rfl, rfl, rfl, Nat.le_refl _, fun _ _ _ => rfl⟩ (gbE hn1.ex) (by simp)) (gbE hE2) (by simp)) (gbE hn3.ex) (by simp)
  have hgb4 : w.grownBy w4 (some cb) := gb_trans hgb3 (gbC hc4) (by simp; omega)
  have hE4 : Ex w0 w4 := (((hE0.trans hn1.ex).trans hE2).trans hn3.ex).chg hc4 (by have := hE0.size; omega)
  have hO4 : Own w4 w.heap.size 3 1 (some ⟨gp, 0, none⟩) 1 1 (intsL [(x : Int)]) := (((hn1.blk.ext hE2).ext hn3.ex).chg hc4 (by omega)).own rfl (by decide) hgp
  have hJ4 : Keeps J cb Tc [] w4 := by
    obtain ⟨cs, hcs, hj⟩ := hJ
    exact ⟨cs, (((hcs.ext hn1.ex).ext hE2).ext hn3.ex).chg hc4 (by omega), hj⟩
  refine cw_loop (ι := Nat × Fnd × Option Addr × Nat × List Nat) [7, 9, 10, 11, 12, 13, 19, 20, 21, 22, 23, 24, 25, 26, 27, 28, 29, 30, 31, 32, 33, 34, 35, 36, 37, 38, 39, 40, 41, 42, 43, 44, 45, 46, 47, 48, 49, 50, 51, 52, 53, 54, 55, 56] (fun s => [(9, .int .i64 (s.1 : Int)), (7, .slice s.2.2.1 s.2.1.1.length s.2.2.2.1)])
    (fun s w' => s.1 ≤ s.2.1.1.length ∧ Ex w0 w' ∧ w.grownBy w' (some cb) ∧ Own w' w.heap.size 3 1 s.2.2.1 s.2.1.1.length s.2.2.2.1 (intsL s.2.1.1) ∧ (∀ ad, s.2.2.1 = some ad → ad.block ≠ g8) ∧
      Blk w' g8 80 (wordsL s.2.2.2.2) ∧ SetOf s.2.2.2.2 s.2.1.1 ∧ Dist n s.2.1.1 ∧ Keeps J cb Tc s.2.1.2 w' ∧ bfsGo gens (n - s.1) s.1 s.2.1 = bfs gens n x) (fun s => n - s.1)
    (0, ([(x : Int)], []), some ⟨gp, 0, none⟩, 1, ws0) ⟨rfl, rfl, trivial⟩
    ⟨by simp, hE4, hgb4, hO4, by intro ad e; cases e; simp only; omega, hb4, hS0, dist_one (by omega) (by omega), hJ4, rfl⟩ ?_
  rintro ⟨i, st, b, c, ws⟩ ξ w5 ⟨hi, hE, hgb, hO, hbn, hb8, hS, hD, hK, hbfs⟩
  simp only at hi hO hbn hb8 hS hD hK hbfs
  have hlen := hD.length_le
  have hsz := hgb.size
  show CW _ _ _ _ (over [(9, .int .i64 (i : Int)), (7, .slice b st.1.length c)] _) w5
  repeat' (first | (refine k_indexN rfl rfl (hO.sl.plain (by simp; omega)) (by omega) ?_) | (refine k_loadI rfl hO.sl (by omega) ?_) | (refine k_pure rfl ?_) | (refine then_normal ?_) | (refine cw_seq ?_) | (refine cw_region rfl ?_) | (refine rr_nil ?_) | (refine k_len rfl ?_) | (refine g_run rfl rfl ?_) | (refine g_skip rfl rfl ?_) | (refine g_dec_f rfl rfl (fun hc => ?_) (fun hc => ?_)) | (refine g_dec_t rfl rfl (fun hc => ?_) (fun hc => ?_)) | (refine g_ndec_f rfl rfl (fun hc => ?_) (fun hc => ?_)) | (refine g_ndec_t rfl rfl (fun hc => ?_) (fun hc => ?_)) | (refine g_split rfl rfl (fun hc => ?_) (fun hc => ?_)) | (refine k_addI rfl rfl (by omega) (by omega) ?_) | (refine k_subI rfl rfl (by omega) (by omega) ?_) | (refine k_fieldAddr rfl ?_) | (refine k_eqlB rfl rfl ?_) | (refine k_neqB rfl rfl ?_) | (refine cw_cond_true rfl ?_) | (refine cw_cond_false rfl ?_) | (refine cw_cond_dec rfl (fun hc => ?_) (fun hc => ?_)) | (refine cw_cond_ndec rfl (fun hc => ?_) (fun hc => ?_)) | (refine cw_cond rfl (fun hc => ?_) (fun hc => ?_)) | (refine cw_block ?_) | (refine cw_exit ?_) | (refine then_exit ?_) | (refine in_exit ?_) | (refine in_exit_ne rfl ?_) | (refine in_normal ?_) | (refine cw_ret ?_) | (refine then_ret ?_) | (refine in_ret ?_) | (refine cw_skip ?_))
  · have hfrom := dist_iff.1 hD |>.1 i (by omega)
    rename_i hilt
    have hgl' := hg.len
    refine cw_loop (ι := Nat × Fnd × Option Addr × Nat × List Nat) [7, 11, 12, 13, 31, 32, 33, 34, 35, 36, 37, 38, 39, 40, 41, 42, 43, 44, 45, 46, 47, 48, 49, 50, 51, 52, 53, 54, 55, 56] (fun s => [(31, .int .i64 (s.1 : Int)), (7, .slice s.2.2.1 s.2.1.1.length s.2.2.2.1)])
      (fun s w' => s.1 ≤ gens.length ∧ Ex w0 w' ∧ w.grownBy w' (some cb) ∧ Own w' w.heap.size 3 1 s.2.2.1 s.2.1.1.length s.2.2.2.1 (intsL s.2.1.1) ∧ (∀ ad, s.2.2.1 = some ad → ad.block ≠ g8) ∧
        Blk w' g8 80 (wordsL s.2.2.2.2) ∧ SetOf s.2.2.2.2 s.2.1.1 ∧ Dist n s.2.1.1 ∧ Keeps J cb Tc s.2.1.2 w' ∧ st.1.length ≤ s.2.1.1.length ∧ scanL (gens.drop s.1) s.1 (st.1.getD i 0) s.2.1 = scanL gens 0 (st.1.getD i 0) st) (fun s => gens.length - s.1)
      (0, st, b, c, ws) ⟨rfl, rfl, trivial⟩ ⟨by simp, hE, hgb, hO, hbn, hb8, hS, hD, hK, by simp, by simp⟩ ?_
    rintro ⟨j, st', b', c', ws'⟩ ξ' w6 ⟨hj, hE6, hgb6, hO6, hbn6, hb86, hS6, hD6, hK6, hle6, hsc⟩
    simp only at hj hO6 hbn6 hb86 hS6 hD6 hK6 hle6 hsc
    have hlen6 := hD6.length_le
    have hsz6 := hgb6.size
    show CW _ _ _ _ (over [(31, .int .i64 (j : Int)), (7, .slice b' st'.1.length c')] _) w6
    repeat' (first | (refine k_indexN rfl rfl (hg.sl.plain (by simp; omega)) (by omega) ?_) | (refine k_loadS rfl (hg.sl.ext hE6) (by omega) ?_) | (refine k_pure rfl ?_) | (refine then_normal ?_) | (refine cw_seq ?_) | (refine cw_region rfl ?_) | (refine rr_nil ?_) | (refine k_len rfl ?_) | (refine g_run rfl rfl ?_) | (refine g_skip rfl rfl ?_) | (refine g_dec_f rfl rfl (fun hc => ?_) (fun hc => ?_)) | (refine g_dec_t rfl rfl (fun hc => ?_) (fun hc => ?_)) | (refine g_ndec_f rfl rfl (fun hc => ?_) (fun hc => ?_)) | (refine g_ndec_t rfl rfl (fun hc => ?_) (fun hc => ?_)) | (refine g_split rfl rfl (fun hc => ?_) (fun hc => ?_)) | (refine k_addI rfl rfl (by omega) (by omega) ?_) | (refine k_subI rfl rfl (by omega) (by omega) ?_) | (refine k_fieldAddr rfl ?_) | (refine k_eqlB rfl rfl ?_) | (refine k_neqB rfl rfl ?_) | (refine cw_cond_true rfl ?_) | (refine cw_cond_false rfl ?_) | (refine cw_cond_dec rfl (fun hc => ?_) (fun hc => ?_)) | (refine cw_cond_ndec rfl (fun hc => ?_) (fun hc => ?_)) | (refine cw_cond rfl (fun hc => ?_) (fun hc => ?_)) | (refine cw_block ?_) | (refine cw_exit ?_) | (refine then_exit ?_) | (refine in_exit ?_) | (refine in_exit_ne rfl ?_) | (refine in_normal ?_) | (refine cw_ret ?_) | (refine then_ret ?_) | (refine in_ret ?_) | (refine cw_skip ?_))
    · obtain ⟨hpe, hpl⟩ := hg.each j (by omega)
      obtain ⟨hp1, hp2⟩ := hG.getD (j := j) (by omega)
      have hlt := hp2.lt (k := (st.1.getD i 0).toNat) (by omega)
      have hvis : scanL (gens.drop (j + 1)) (j + 1) (st.1.getD i 0) (visit (gens.getD j []) j (st.1.getD i 0) st') = scanL gens 0 (st.1.getD i 0) st := by
        rw [← hsc, drop_getD (d := []) (l := gens) (j := j) (by omega)]; rfl
      rw [hpl]
      generalize hp : gens.getD j [] = p at *
      repeat' (first | (refine k_index1 rfl rfl (hpe.plain (by simp; omega)) (by omega) (by omega) ?_) | (refine k_loadI rfl (hpe.ext hE6) (by omega) ?_) | (refine k_loadCA rfl hb86 (by simp [hS6.len]) ?_) | (refine k_pure rfl ?_) | (refine then_normal ?_) | (refine cw_seq ?_) | (refine cw_region rfl ?_) | (refine rr_nil ?_) | (refine k_len rfl ?_) | (refine g_run rfl rfl ?_) | (refine g_skip rfl rfl ?_) | (refine g_dec_f rfl rfl (fun hc => ?_) (fun hc => ?_)) | (refine g_dec_t rfl rfl (fun hc => ?_) (fun hc => ?_)) | (refine g_ndec_f rfl rfl (fun hc => ?_) (fun hc => ?_)) | (refine g_ndec_t rfl rfl (fun hc => ?_) (fun hc => ?_)) | (refine g_split rfl rfl (fun hc => ?_) (fun hc => ?_)) | (refine k_addI rfl rfl (by omega) (by omega) ?_) | (refine k_subI rfl rfl (by omega) (by omega) ?_) | (refine k_fieldAddr rfl ?_) | (refine k_eqlB rfl rfl ?_) | (refine k_neqB rfl rfl ?_) | (refine cw_cond_true rfl ?_) | (refine cw_cond_false rfl ?_) | (refine cw_cond_dec rfl (fun hc => ?_) (fun hc => ?_)) | (refine cw_cond_ndec rfl (fun hc => ?_) (fun hc => ?_)) | (refine cw_cond rfl (fun hc => ?_) (fun hc => ?_)) | (refine cw_block ?_) | (refine cw_exit ?_) | (refine then_exit ?_) | (refine in_exit ?_) | (refine in_exit_ne rfl ?_) | (refine in_normal ?_) | (refine cw_ret ?_) | (refine then_ret ?_) | (refine in_ret ?_) | (refine cw_skip ?_))
      refine k_call (has_spec hS6 _ (by omega) (by omega) _) rfl ?_
      rintro v w7 ⟨rfl, hE7⟩
      refine ⟨fun _ _ => trivial, ?_⟩
      have hb87 := hb86.ext hE7
      repeat' (first | (refine k_loadCA rfl hb87 (by simp [hS6.len]) ?_) | (refine k_pure rfl ?_) | (refine then_normal ?_) | (refine cw_seq ?_) | (refine cw_region rfl ?_) | (refine rr_nil ?_) | (refine k_len rfl ?_) | (refine g_run rfl rfl ?_) | (refine g_skip rfl rfl ?_) | (refine g_dec_f rfl rfl (fun hc => ?_) (fun hc => ?_)) | (refine g_dec_t rfl rfl (fun hc => ?_) (fun hc => ?_)) | (refine g_ndec_f rfl rfl (fun hc => ?_) (fun hc => ?_)) | (refine g_ndec_t rfl rfl (fun hc => ?_) (fun hc => ?_)) | (refine g_split rfl rfl (fun hc => ?_) (fun hc => ?_)) | (refine k_addI rfl rfl (by omega) (by omega) ?_) | (refine k_subI rfl rfl (by omega) (by omega) ?_) | (refine k_fieldAddr rfl ?_) | (refine k_eqlB rfl rfl ?_) | (refine k_neqB rfl rfl ?_) | (refine cw_cond_true rfl ?_) | (refine cw_cond_false rfl ?_) | (refine cw_cond_dec rfl (fun hc => ?_) (fun hc => ?_)) | (refine cw_cond_ndec rfl (fun hc => ?_) (fun hc => ?_)) | (refine cw_cond rfl (fun hc => ?_) (fun hc => ?_)) | (refine cw_block ?_) | (refine cw_exit ?_) | (refine then_exit ?_) | (refine in_exit ?_) | (refine in_exit_ne rfl ?_) | (refine in_normal ?_) | (refine cw_ret ?_) | (refine then_ret ?_) | (refine in_ret ?_) | (refine cw_skip ?_))
      · have hvis' : visit p j (st.1.getD i 0) st' = (st'.1 ++ [p.getD (st.1.getD i 0).toNat 0], st'.2 ++ [(p.getD (st.1.getD i 0).toNat 0, j, st.1.getD i 0)]) := by rw [visit, if_neg hc]
        rw [hvis'] at hvis
        generalize hy : p.getD (st.1.getD i 0).toNat 0 = y at *
        generalize hz : st.1.getD i 0 = z at *
        refine k_call (with_spec hS6 _ (by omega) (by omega) _) rfl ?_
        rintro v w8 ⟨ws2, rfl, hS8, hE8⟩
        refine ⟨fun _ _ => trivial, ?_⟩
        refine k_storeV (n := 8) rfl rfl (by simp [hS8.len]) (all_one (fun _ => rfl) _) (hb87.ext hE8) (by simp [hS6.len]) (fun w9 hc9 hb9 => ⟨fun _ _ => trivial, ?_⟩)
        have s7 := hE7.size
        have s8 := hE8.size
        have s9 := hc9.size
        have hgb9 : w.grownBy w9 (some cb) := gb_trans (gb_trans (gb_trans hgb6 (gbE hE7) (by simp)) (gbE hE8) (by simp)) (gbC hc9) (by simp; omega)
        have hE9 : Ex w0 w9 := ((hE6.trans hE7).trans hE8).chg hc9 (by have := hE0.size; omega)
        have hO9 := ((hO6.ext hE7).ext hE8).chg hc9 hbn6
        repeat' (first | (refine k_pure rfl ?_) | (refine then_normal ?_) | (refine cw_seq ?_) | (refine cw_region rfl ?_) | (refine rr_nil ?_) | (refine k_len rfl ?_) | (refine g_run rfl rfl ?_) | (refine g_skip rfl rfl ?_) | (refine g_dec_f rfl rfl (fun hc => ?_) (fun hc => ?_)) | (refine g_dec_t rfl rfl (fun hc => ?_) (fun hc => ?_)) | (refine g_ndec_f rfl rfl (fun hc => ?_) (fun hc => ?_)) | (refine g_ndec_t rfl rfl (fun hc => ?_) (fun hc => ?_)) | (refine g_split rfl rfl (fun hc => ?_) (fun hc => ?_)) | (refine k_addI rfl rfl (by omega) (by omega) ?_) | (refine k_subI rfl rfl (by omega) (by omega) ?_) | (refine k_fieldAddr rfl ?_) | (refine k_eqlB rfl rfl ?_) | (refine k_neqB rfl rfl ?_) | (refine cw_cond_true rfl ?_) | (refine cw_cond_false rfl ?_) | (refine cw_cond_dec rfl (fun hc => ?_) (fun hc => ?_)) | (refine cw_cond_ndec rfl (fun hc => ?_) (fun hc => ?_)) | (refine cw_cond rfl (fun hc => ?_) (fun hc => ?_)) | (refine cw_block ?_) | (refine cw_exit ?_) | (refine then_exit ?_) | (refine in_exit ?_) | (refine in_exit_ne rfl ?_) | (refine in_normal ?_) | (refine cw_ret ?_) | (refine then_ret ?_) | (refine in_ret ?_) | (refine cw_skip ?_))
        refine k_app1I rfl rfl rfl rfl hO9 (by omega) (by omega) (by omega) (fun gl b2 c2 w10 hO10 hg10 hA => ?_)
        have hr10 : ∀ k, (Value.slice b' st'.1.length c').ownBlock = some k → w.heap.size ≤ k ∧ k ≠ g8 := fun k hk => by
          cases b' with
          | none => simp [Value.ownBlock] at hk
          | some ad => simp only [Value.ownBlock, Option.some.injEq] at hk; have h1 := (hO9.lo ad rfl).1; have h2 := hbn6 ad rfl; omega
        have s10 := hg10.size
        have hgb10 : w.grownBy w10 (some cb) := gb_trans hgb9 hg10 (fun k hk => .inr (hr10 k hk).1)
        have hE10 : Ex w0 w10 := hE9.gb hg10 (fun k hk => by have := (hr10 k hk).1; have := hE0.size; omega)
        have hb10 := hb9.gb hg10 (fun e => (hr10 g8 e).2 rfl)
        have hbn10 : ∀ ad, b2 = some ad → ad.block ≠ g8 := fun ad e => by
          rcases hA with h | h
          · exact hbn6 ad (h ▸ e)
          · have := h ad e; have := hb9.lt; omega
        have hK10 : Keeps J cb Tc st'.2 w10 := by
          obtain ⟨cs, hcs, hj⟩ := hK6
          exact ⟨cs, (((hcs.ext hE7).ext hE8).chg hc9 (by omega)).gb hg10 (fun e => by have := (hr10 cb e).1; omega), hj⟩
        repeat' (first | (refine k_pure rfl ?_) | (refine then_normal ?_) | (refine cw_seq ?_) | (refine cw_region rfl ?_) | (refine rr_nil ?_) | (refine k_len rfl ?_) | (refine g_run rfl rfl ?_) | (refine g_skip rfl rfl ?_) | (refine g_dec_f rfl rfl (fun hc => ?_) (fun hc => ?_)) | (refine g_dec_t rfl rfl (fun hc => ?_) (fun hc => ?_)) | (refine g_ndec_f rfl rfl (fun hc => ?_) (fun hc => ?_)) | (refine g_ndec_t rfl rfl (fun hc => ?_) (fun hc => ?_)) | (refine g_split rfl rfl (fun hc => ?_) (fun hc => ?_)) | (refine k_addI rfl rfl (by omega) (by omega) ?_) | (refine k_subI rfl rfl (by omega) (by omega) ?_) | (refine k_fieldAddr rfl ?_) | (refine k_eqlB rfl rfl ?_) | (refine k_neqB rfl rfl ?_) | (refine cw_cond_true rfl ?_) | (refine cw_cond_false rfl ?_) | (refine cw_cond_dec rfl (fun hc => ?_) (fun hc => ?_)) | (refine cw_cond_ndec rfl (fun hc => ?_) (fun hc => ?_)) | (refine cw_cond rfl (fun hc => ?_) (fun hc => ?_)) | (refine cw_block ?_) | (refine cw_exit ?_) | (refine then_exit ?_) | (refine in_exit ?_) | (refine in_exit_ne rfl ?_) | (refine in_normal ?_) | (refine cw_ret ?_) | (refine then_ret ?_) | (refine in_ret ?_) | (refine cw_skip ?_))
        refine k_callV rfl (hcall st'.2 y j z w10 hgb10 hK10 (by omega) (by omega)) rfl ?_
        rintro v w11 ⟨hK11, hg11⟩
        refine ⟨fun _ _ => trivial, ?_⟩
        have hO11 := hO10.gb hg11 (fun ad e e2 => by have := (hO10.lo ad e).1; cases e2; omega)
        have hb11 := hb10.gb hg11 (fun e => by cases e; omega)
        repeat' (first | (refine k_pure rfl ?_) | (refine then_normal ?_) | (refine cw_seq ?_) | (refine cw_region rfl ?_) | (refine rr_nil ?_) | (refine k_len rfl ?_) | (refine g_run rfl rfl ?_) | (refine g_skip rfl rfl ?_) | (refine g_dec_f rfl rfl (fun hc => ?_) (fun hc => ?_)) | (refine g_dec_t rfl rfl (fun hc => ?_) (fun hc => ?_)) | (refine g_ndec_f rfl rfl (fun hc => ?_) (fun hc => ?_)) | (refine g_ndec_t rfl rfl (fun hc => ?_) (fun hc => ?_)) | (refine g_split rfl rfl (fun hc => ?_) (fun hc => ?_)) | (refine k_addI rfl rfl (by omega) (by omega) ?_) | (refine k_subI rfl rfl (by omega) (by omega) ?_) | (refine k_fieldAddr rfl ?_) | (refine k_eqlB rfl rfl ?_) | (refine k_neqB rfl rfl ?_) | (refine cw_cond_true rfl ?_) | (refine cw_cond_false rfl ?_) | (refine cw_cond_dec rfl (fun hc => ?_) (fun hc => ?_)) | (refine cw_cond_ndec rfl (fun hc => ?_) (fun hc => ?_)) | (refine cw_cond rfl (fun hc => ?_) (fun hc => ?_)) | (refine cw_block ?_) | (refine cw_exit ?_) | (refine then_exit ?_) | (refine in_exit ?_) | (refine in_exit_ne rfl ?_) | (refine in_normal ?_) | (refine cw_ret ?_) | (refine then_ret ?_) | (refine in_ret ?_) | (refine cw_skip ?_))
        refine ⟨⟨(j + 1, (st'.1 ++ [y], st'.2 ++ [(y, j, z)]), b2, c2, ws2), ⟨by simp only; omega, hE10.gb hg11 (by simp; omega), gb_trans hgb10 hg11 (by simp), by simpa using hO11, hbn10, hb11, hS8, good_snoc.2 ⟨hD6, by omega, by omega, hc⟩, hK11, by simp; omega, hvis⟩, by simp only; omega, rfl, ?_, trivial⟩, (by (repeat (first | exact agree_mask _ _ _ | refine agree_upd rfl ?_ | refine agree_updO rfl ?_ | refine agree_overIn rfl ?_ | refine agree_maskIn rfl ?_)))⟩
        simp only [List.length_append, List.length_singleton]
        rfl
      · have hvis' : visit p j (st.1.getD i 0) st' = st' := by rw [visit, if_pos hc]
        rw [hvis'] at hvis
        have s7 := hE7.size
        refine ⟨⟨(j + 1, st', b', c', ws'), ⟨by simp only; omega, hE6.trans hE7, gb_trans hgb6 (gbE hE7) (by simp), hO6.ext hE7, hbn6, hb87, hS6, hD6, ?_, hle6, hvis⟩, by simp only; omega, rfl, rfl, trivial⟩, (by (repeat (first | exact agree_mask _ _ _ | refine agree_upd rfl ?_ | refine agree_updO rfl ?_ | refine agree_overIn rfl ?_ | refine agree_maskIn rfl ?_)))⟩
        obtain ⟨cs, hcs, hj⟩ := hK6
        exact ⟨cs, hcs.ext hE7, hj⟩
    · obtain rfl : j = gens.length := by omega
      have hsc' : scanL gens 0 (st.1.getD i 0) st = st' := by rw [← hsc, List.drop_length]; rfl
      refine ⟨⟨(i + 1, st', b', c', ws'), ⟨by simp only; omega, hE6, hgb6, hO6, hbn6, hb86, hS6, hD6, hK6, ?_⟩, by simp only; omega, rfl, rfl, trivial⟩, (by (repeat (first | exact agree_mask _ _ _ | refine agree_upd rfl ?_ | refine agree_updO rfl ?_ | refine agree_overIn rfl ?_ | refine agree_maskIn rfl ?_)))⟩
      simp only
      rw [← hbfs, show n - i = (n - (i + 1)) + 1 by omega, bfsGo, if_pos (by omega), hsc']
  · have hst : bfs gens n x = st := by rw [← hbfs, bfsGo_end (by omega)]
    rw [hst]
    exact ret1 rfl (rt rfl) ⟨b, c, rfl, hO, hK, hgb, hE⟩
end Go.Proofs.Ytmedmmginnfjgaa
