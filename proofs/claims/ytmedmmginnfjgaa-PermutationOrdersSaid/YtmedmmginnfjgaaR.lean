import Derived.Test.YtmedmmginnfjgaaQ
import Derived.Test.YtmedmmginnfjgaaT
import Derived.Test.YtmedmmginnfjgaaOrd
namespace Go.Proofs.Ytmedmmginnfjgaa
open Go.W Go.PM Go.LM

/-- the block of a number's limbs -/
def blkS (v : Value) : Option Nat := match v with
  | .slice (some ad) (_ + 1) _ => some ad.block
  | _ => none
def blkOf (v : Value) : Option Nat := match v with
  | .agg cs => (cs[1]?).bind blkS
  | _ => none
def Off (g : Nat) (v : Value) : Prop := blkOf v ≠ some g
theorem IntC.out {lo : Nat} {w : World} {v : Value} {z : Int} (h : IntC lo w v z) : ∃ cs : List Value, v = .agg cs.toArray ∧ cs.length = 2 ∧ cs.all Value.oneCell' = true := by
  obtain ⟨neg, a, c, ls, rfl, _⟩ := h
  exact ⟨_, rfl, rfl, rfl⟩
theorem IntC.lo {lo : Nat} {w : World} {v : Value} {z : Int} (h : IntC lo w v z) {g : Nat} (hg : blkOf v = some g) : lo ≤ g ∧ g < w.heap.size := by
  obtain ⟨neg, a, c, ls, rfl, hl, _, _, _, h6⟩ := h
  cases a with
  | none => simp [blkOf, blkS] at hg
  | some ad => cases ls with
    | nil => simp [blkOf, blkS] at hg
    | cons x t =>
      simp [blkOf, blkS] at hg
      subst hg
      refine ⟨h6 ad rfl, ?_⟩
      have := World.block_lt_of_cell? w _ (hl.sl.get 0 (by simp))
      exact this
theorem IntC.off_lo {lo g : Nat} {w : World} {v : Value} {z : Int} (h : IntC lo w v z) (hg : g < lo) : Off g v := fun e => by have := (h.lo e).1; omega
theorem IntC.off_hi {lo g : Nat} {w : World} {v : Value} {z : Int} (h : IntC lo w v z) (hg : w.heap.size ≤ g) : Off g v := fun e => by have := (h.lo e).2; omega
theorem IntC.chgO {lo g : Nat} {w w' : World} {v : Value} {z : Int} (h : IntC lo w v z) (e : Chg g w w') (hg : Off g v) : IntC lo w' v z := by
  obtain ⟨neg, a, c, ls, rfl, h2, h3, h4, h5, h6⟩ := h
  cases ls with
  | nil => exact ⟨neg, a, c, [], rfl, Limbs.nil _ _ _, h3, h4, h5, h6⟩
  | cons x t => exact ⟨neg, a, c, x :: t, rfl, h2.chg e (fun ad ea => by subst ea; intro e2; exact hg (by simp [blkOf, blkS, e2])), h3, h4, h5, h6⟩
theorem IntC.zero (lo : Nat) (w : World) : IntC lo w (.agg (intL false none 0 0).toArray) 0 := ⟨false, none, 0, [], rfl, Limbs.nil _ _ _, rfl, rfl, by simp, by simp⟩

theorem order_spec {xs : List Int} {a : Option Addr} {w : World} (hx : Sl w a (intsL xs)) (cap : Nat) (hne : ∀ k, k < (cyclesF xs).length → 1 ≤ ((cyclesF xs).getD k []).length) (hlt : ∀ k, ordTo (cyclesF xs) k < 18446744073709551616) :
    CallsR Try.prog 23 #[.slice a xs.length cap] w fun v w' =>
      ∃ n, v = .tuple #[n, .bool (decide (IsPerm xs))] ∧ IntC w.heap.size w' n (if IsPerm xs then orderF xs else 0) ∧ Ex w w' := by
  refine callsR_of (args := [_]) Try.func23 rfl rfl ?_
  repeat' (first | (refine k_alloc (fun g2 w1 hn1 => ⟨fun _ _ => trivial, ?_⟩)) | (refine k_pure rfl ?_) | (refine then_normal ?_) | (refine cw_seq ?_) | (refine cw_region rfl ?_) | (refine rr_nil ?_) | (refine k_len rfl ?_) | (refine g_run rfl rfl ?_) | (refine g_skip rfl rfl ?_) | (refine g_dec_f rfl rfl (fun hc => ?_) (fun hc => ?_)) | (refine g_dec_t rfl rfl (fun hc => ?_) (fun hc => ?_)) | (refine g_ndec_f rfl rfl (fun hc => ?_) (fun hc => ?_)) | (refine g_ndec_t rfl rfl (fun hc => ?_) (fun hc => ?_)) | (refine g_split rfl rfl (fun hc => ?_) (fun hc => ?_)) | (refine k_addI rfl rfl (by omega) (by omega) ?_) | (refine k_subI rfl rfl (by omega) (by omega) ?_) | (refine k_fieldAddr rfl ?_) | (refine k_eqlB rfl rfl ?_) | (refine k_neqB rfl rfl ?_) | (refine cw_cond_true rfl ?_) | (refine cw_cond_false rfl ?_) | (refine cw_cond_dec rfl (fun hc => ?_) (fun hc => ?_)) | (refine cw_cond_ndec rfl (fun hc => ?_) (fun hc => ?_)) | (refine cw_cond rfl (fun hc => ?_) (fun hc => ?_)) | (refine cw_block ?_) | (refine cw_exit ?_) | (refine then_exit ?_) | (refine in_exit ?_) | (refine in_exit_ne rfl ?_) | (refine in_normal ?_) | (refine cw_ret ?_) | (refine then_ret ?_) | (refine in_ret ?_) | (refine cw_skip ?_))
  refine k_call (cycles_spec (hx.ext hn1.ex) _) rfl ?_
  rintro v w2 ⟨b, c, sds, rfl, hL2, hE2⟩
  refine ⟨fun _ _ => trivial, ?_⟩
  have l1 := hn1.lo
  have l2 := hn1.hi
  have l3 := hE2.size
  have hb2 := hn1.blk.ext hE2
  repeat' (first | (refine k_pure rfl ?_) | (refine then_normal ?_) | (refine cw_seq ?_) | (refine cw_region rfl ?_) | (refine rr_nil ?_) | (refine k_len rfl ?_) | (refine g_run rfl rfl ?_) | (refine g_skip rfl rfl ?_) | (refine g_dec_f rfl rfl (fun hc => ?_) (fun hc => ?_)) | (refine g_dec_t rfl rfl (fun hc => ?_) (fun hc => ?_)) | (refine g_ndec_f rfl rfl (fun hc => ?_) (fun hc => ?_)) | (refine g_ndec_t rfl rfl (fun hc => ?_) (fun hc => ?_)) | (refine g_split rfl rfl (fun hc => ?_) (fun hc => ?_)) | (refine k_addI rfl rfl (by omega) (by omega) ?_) | (refine k_subI rfl rfl (by omega) (by omega) ?_) | (refine k_fieldAddr rfl ?_) | (refine k_eqlB rfl rfl ?_) | (refine k_neqB rfl rfl ?_) | (refine cw_cond_true rfl ?_) | (refine cw_cond_false rfl ?_) | (refine cw_cond_dec rfl (fun hc => ?_) (fun hc => ?_)) | (refine cw_cond_ndec rfl (fun hc => ?_) (fun hc => ?_)) | (refine cw_cond rfl (fun hc => ?_) (fun hc => ?_)) | (refine cw_block ?_) | (refine cw_exit ?_) | (refine then_exit ?_) | (refine in_exit ?_) | (refine in_exit_ne rfl ?_) | (refine in_normal ?_) | (refine cw_ret ?_) | (refine then_ret ?_) | (refine in_ret ?_) | (refine cw_skip ?_))
  · refine k_build (cs := intL false none 0 0) rfl ?_
    repeat' (first | (refine k_pure rfl ?_) | (refine then_normal ?_) | (refine cw_seq ?_) | (refine cw_region rfl ?_) | (refine rr_nil ?_) | (refine k_len rfl ?_) | (refine g_run rfl rfl ?_) | (refine g_skip rfl rfl ?_) | (refine g_dec_f rfl rfl (fun hc => ?_) (fun hc => ?_)) | (refine g_dec_t rfl rfl (fun hc => ?_) (fun hc => ?_)) | (refine g_ndec_f rfl rfl (fun hc => ?_) (fun hc => ?_)) | (refine g_ndec_t rfl rfl (fun hc => ?_) (fun hc => ?_)) | (refine g_split rfl rfl (fun hc => ?_) (fun hc => ?_)) | (refine k_addI rfl rfl (by omega) (by omega) ?_) | (refine k_subI rfl rfl (by omega) (by omega) ?_) | (refine k_fieldAddr rfl ?_) | (refine k_eqlB rfl rfl ?_) | (refine k_neqB rfl rfl ?_) | (refine cw_cond_true rfl ?_) | (refine cw_cond_false rfl ?_) | (refine cw_cond_dec rfl (fun hc => ?_) (fun hc => ?_)) | (refine cw_cond_ndec rfl (fun hc => ?_) (fun hc => ?_)) | (refine cw_cond rfl (fun hc => ?_) (fun hc => ?_)) | (refine cw_block ?_) | (refine cw_exit ?_) | (refine then_exit ?_) | (refine in_exit ?_) | (refine in_exit_ne rfl ?_) | (refine in_normal ?_) | (refine cw_ret ?_) | (refine then_ret ?_) | (refine in_ret ?_) | (refine cw_skip ?_))
    refine k_storeV (n := 2) rfl rfl rfl rfl hb2 rfl (fun w3 hc3 hb3 => ⟨fun _ _ => trivial, ?_⟩)
    repeat' (first | (refine k_pure rfl ?_) | (refine then_normal ?_) | (refine cw_seq ?_) | (refine cw_region rfl ?_) | (refine rr_nil ?_) | (refine k_len rfl ?_) | (refine g_run rfl rfl ?_) | (refine g_skip rfl rfl ?_) | (refine g_dec_f rfl rfl (fun hc => ?_) (fun hc => ?_)) | (refine g_dec_t rfl rfl (fun hc => ?_) (fun hc => ?_)) | (refine g_ndec_f rfl rfl (fun hc => ?_) (fun hc => ?_)) | (refine g_ndec_t rfl rfl (fun hc => ?_) (fun hc => ?_)) | (refine g_split rfl rfl (fun hc => ?_) (fun hc => ?_)) | (refine k_addI rfl rfl (by omega) (by omega) ?_) | (refine k_subI rfl rfl (by omega) (by omega) ?_) | (refine k_fieldAddr rfl ?_) | (refine k_eqlB rfl rfl ?_) | (refine k_neqB rfl rfl ?_) | (refine cw_cond_true rfl ?_) | (refine cw_cond_false rfl ?_) | (refine cw_cond_dec rfl (fun hc => ?_) (fun hc => ?_)) | (refine cw_cond_ndec rfl (fun hc => ?_) (fun hc => ?_)) | (refine cw_cond rfl (fun hc => ?_) (fun hc => ?_)) | (refine cw_block ?_) | (refine cw_exit ?_) | (refine then_exit ?_) | (refine in_exit ?_) | (refine in_exit_ne rfl ?_) | (refine in_normal ?_) | (refine cw_ret ?_) | (refine then_ret ?_) | (refine in_ret ?_) | (refine cw_skip ?_))
    refine ret2 rfl (rc rfl rfl hb3) (rt rfl) ?_
    rw [if_neg hc, decide_eq_false hc]
    exact ⟨_, rfl, IntC.zero _ _, (hn1.ex.trans hE2).chg hc3 (by omega)⟩
  · refine k_call (small_spec (by omega) (by omega) _) rfl ?_
    rintro v w3 ⟨hz3, hE3⟩
    refine ⟨fun _ _ => trivial, ?_⟩
    obtain ⟨cs0, rfl, hl0, ho0⟩ := hz3.out
    refine k_alloc (fun g6 w4 hn4 => ⟨fun _ _ => trivial, ?_⟩)
    refine k_storeV (n := 2) rfl rfl hl0 ho0 hn4.blk rfl (fun w5 hc5 hb5 => ⟨fun _ _ => trivial, ?_⟩)
    have l4 := hE3.size
    have l5 := hn4.lo
    have l6 := hn4.hi
    have l7 := hc5.size
    have hE5 : Ex w2 w5 := (hE3.trans hn4.ex).chg hc5 (by omega)
    have hoff5 := hz3.off_hi hn4.lo
    have hz5 := (hz3.ext hn4.ex).chgO hc5 hoff5
    have hlen := hL2.len
    have hL2' := hL2.lists
    have hbl : (cyclesF xs).length ≤ 512 ∧ ∀ i, ((cyclesF xs).getD i []).length ≤ 512 := by
      rw [cyclesF, if_pos hc]
      have h1 := cycGo_len hc xs.length (Nat.le_refl _)
      have h2 : xs.length ≤ 512 := hc.2.1
      exact ⟨by omega, fun i => by have := h1.2 i; omega⟩
    have hP := hc
    repeat' (first | (refine k_pure rfl ?_) | (refine then_normal ?_) | (refine cw_seq ?_) | (refine cw_region rfl ?_) | (refine rr_nil ?_) | (refine k_len rfl ?_) | (refine g_run rfl rfl ?_) | (refine g_skip rfl rfl ?_) | (refine g_dec_f rfl rfl (fun hc => ?_) (fun hc => ?_)) | (refine g_dec_t rfl rfl (fun hc => ?_) (fun hc => ?_)) | (refine g_ndec_f rfl rfl (fun hc => ?_) (fun hc => ?_)) | (refine g_ndec_t rfl rfl (fun hc => ?_) (fun hc => ?_)) | (refine g_split rfl rfl (fun hc => ?_) (fun hc => ?_)) | (refine k_addI rfl rfl (by omega) (by omega) ?_) | (refine k_subI rfl rfl (by omega) (by omega) ?_) | (refine k_fieldAddr rfl ?_) | (refine k_eqlB rfl rfl ?_) | (refine k_neqB rfl rfl ?_) | (refine cw_cond_true rfl ?_) | (refine cw_cond_false rfl ?_) | (refine cw_cond_dec rfl (fun hc => ?_) (fun hc => ?_)) | (refine cw_cond_ndec rfl (fun hc => ?_) (fun hc => ?_)) | (refine cw_cond rfl (fun hc => ?_) (fun hc => ?_)) | (refine cw_block ?_) | (refine cw_exit ?_) | (refine then_exit ?_) | (refine in_exit ?_) | (refine in_exit_ne rfl ?_) | (refine in_normal ?_) | (refine cw_ret ?_) | (refine then_ret ?_) | (refine in_ret ?_) | (refine cw_skip ?_))
    refine cw_loop (ι := Nat × List Value) [8, 9, 10, 11, 12, 24, 25, 26, 27, 28, 29, 30, 31, 32, 33, 34, 35, 36, 37, 38, 39, 40, 41, 42, 43] (fun s => [(24, .int .i64 (s.1 : Int))])
      (fun s w' => s.1 ≤ sds.length ∧ Ex w2 w' ∧ Blk w' g6 34 s.2 ∧ s.2.length = 2 ∧ s.2.all Value.oneCell' = true ∧ IntC w2.heap.size w' (.agg s.2.toArray) (ordTo (cyclesF xs) s.1) ∧ Off g6 (.agg s.2.toArray)) (fun s => sds.length - s.1)
      (0, cs0) ⟨rfl, trivial⟩ ⟨by simp, hE5, hb5, hl0, ho0, hz5, hoff5⟩ ?_
    rintro ⟨k, cs⟩ ξ w6 ⟨hk, hE6, hb6, hl6, ho6, hz6, hoff6⟩
    simp only at hk hE6 hb6 hl6 ho6 hz6 hoff6
    have hL6 := hL2'.ext hE6
    show CW _ _ _ _ (over [(24, .int .i64 (k : Int))] _) w6
    repeat' (first | (refine k_indexN rfl rfl (hL6.sl.plain (by simp; omega)) (by omega) ?_) | (refine k_loadS rfl hL6.sl (by omega) ?_) | (refine k_pure rfl ?_) | (refine then_normal ?_) | (refine cw_seq ?_) | (refine cw_region rfl ?_) | (refine rr_nil ?_) | (refine k_len rfl ?_) | (refine g_run rfl rfl ?_) | (refine g_skip rfl rfl ?_) | (refine g_dec_f rfl rfl (fun hc => ?_) (fun hc => ?_)) | (refine g_dec_t rfl rfl (fun hc => ?_) (fun hc => ?_)) | (refine g_ndec_f rfl rfl (fun hc => ?_) (fun hc => ?_)) | (refine g_ndec_t rfl rfl (fun hc => ?_) (fun hc => ?_)) | (refine g_split rfl rfl (fun hc => ?_) (fun hc => ?_)) | (refine k_addI rfl rfl (by omega) (by omega) ?_) | (refine k_subI rfl rfl (by omega) (by omega) ?_) | (refine k_fieldAddr rfl ?_) | (refine k_eqlB rfl rfl ?_) | (refine k_neqB rfl rfl ?_) | (refine cw_cond_true rfl ?_) | (refine cw_cond_false rfl ?_) | (refine cw_cond_dec rfl (fun hc => ?_) (fun hc => ?_)) | (refine cw_cond_ndec rfl (fun hc => ?_) (fun hc => ?_)) | (refine cw_cond rfl (fun hc => ?_) (fun hc => ?_)) | (refine cw_block ?_) | (refine cw_exit ?_) | (refine then_exit ?_) | (refine in_exit ?_) | (refine in_exit_ne rfl ?_) | (refine in_normal ?_) | (refine cw_ret ?_) | (refine then_ret ?_) | (refine in_ret ?_) | (refine cw_skip ?_))
    · have hkl : k < (cyclesF xs).length := by omega
      have hle := (hL6.each k hkl).2
      have hlk := hbl.2 k
      have hlp := hne k hkl
      have hgo := hlt k
      have hgs := hlt (k + 1)
      rw [ordTo] at hgs
      generalize hln : ((cyclesF xs).getD k []).length = len at *
      generalize hod : ordTo (cyclesF xs) k = od at *
      rw [hle]
      refine k_call (small_spec (by omega) (by omega) _) rfl ?_
      rintro v w7 ⟨hz7, hE7⟩
      refine ⟨fun _ _ => trivial, ?_⟩
      obtain ⟨cs9, rfl, hl9, ho9⟩ := hz7.out
      refine k_alloc (fun g9 w8 hn8 => ⟨fun _ _ => trivial, ?_⟩)
      refine k_storeV (n := 2) rfl rfl hl9 ho9 hn8.blk rfl (fun w9 hc9 hb9 => ⟨fun _ _ => trivial, ?_⟩)
      have m1 := hE7.size
      have m2 := hn8.lo
      have m3 := hn8.hi
      have m4 := hc9.size
      have m5 := hb6.lt
      have m6 := hE6.size
      have hE9 : Ex w2 w9 := ((hE6.trans hE7).trans hn8.ex).chg hc9 (by omega)
      have hb69 := ((hb6.ext hE7).ext hn8.ex).chg hc9 (by omega)
      have hz9 := (((hz7.ext hn8.ex).chgO hc9 (hz7.off_hi hn8.lo))).mono (lo' := w2.heap.size) (by omega)
      have hz69 := ((hz6.ext hE7).ext hn8.ex).chgO hc9 (fun e => by have := (hz6.lo e).2; omega)
      have hdv : 0 < Nat.gcd od len := Nat.gcd_pos_of_pos_right _ (by omega)
      have hdl : Nat.gcd od len ≤ len := Nat.le_of_dvd (by omega) (Nat.gcd_dvd_right _ _)
      have hEx : Ex w9 w9.drew := (Ex.refl w9).drew
      repeat' (first | (refine k_pure rfl ?_) | (refine then_normal ?_) | (refine cw_seq ?_) | (refine cw_region rfl ?_) | (refine rr_nil ?_) | (refine k_len rfl ?_) | (refine g_run rfl rfl ?_) | (refine g_skip rfl rfl ?_) | (refine g_dec_f rfl rfl (fun hc => ?_) (fun hc => ?_)) | (refine g_dec_t rfl rfl (fun hc => ?_) (fun hc => ?_)) | (refine g_ndec_f rfl rfl (fun hc => ?_) (fun hc => ?_)) | (refine g_ndec_t rfl rfl (fun hc => ?_) (fun hc => ?_)) | (refine g_split rfl rfl (fun hc => ?_) (fun hc => ?_)) | (refine k_addI rfl rfl (by omega) (by omega) ?_) | (refine k_subI rfl rfl (by omega) (by omega) ?_) | (refine k_fieldAddr rfl ?_) | (refine k_eqlB rfl rfl ?_) | (refine k_neqB rfl rfl ?_) | (refine cw_cond_true rfl ?_) | (refine cw_cond_false rfl ?_) | (refine cw_cond_dec rfl (fun hc => ?_) (fun hc => ?_)) | (refine cw_cond_ndec rfl (fun hc => ?_) (fun hc => ?_)) | (refine cw_cond rfl (fun hc => ?_) (fun hc => ?_)) | (refine cw_block ?_) | (refine cw_exit ?_) | (refine then_exit ?_) | (refine in_exit ?_) | (refine in_exit_ne rfl ?_) | (refine in_normal ?_) | (refine cw_ret ?_) | (refine then_ret ?_) | (refine in_ret ?_) | (refine cw_skip ?_))
      refine cw_join (ι := Nat × List Value) [10, 11, 12, 31, 32, 33, 34, 35, 36, 37, 38, 39] (fun s => [(10, .pointer (some ⟨s.1, 0, none⟩))])
        (fun s w' => Ex w9 w' ∧ Blk w' s.1 34 s.2 ∧ s.2.length = 2 ∧ s.2.all Value.oneCell' = true ∧ IntC w2.heap.size w' (.agg s.2.toArray) ((len / Nat.gcd od len : Nat) : Int)) ?_ ?_
      refine cw_tree (fun w' => Ex w9 w') mixed hEx ?_
      refine rb_pre (fuel := 11) (by kernel_rfl) (by kernel_rfl) [0, 1, 2] _ _ (by kernel_rfl) ?_
      repeat' (first | (refine k_loadCA rfl (fun _ h => hb9.ext h) hl9 ?_) | (refine k_loadCA rfl (fun _ h => hb69.ext h) hl6 ?_) | (refine k_extract rfl rfl ?_) | (refine k_pure rfl ?_) | (refine then_normal ?_) | (refine cw_seq ?_) | (refine cw_region rfl ?_) | (refine rr_nil ?_) | (refine k_len rfl ?_) | (refine g_run rfl rfl ?_) | (refine g_skip rfl rfl ?_) | (refine g_dec_f rfl rfl (fun hc => ?_) (fun hc => ?_)) | (refine g_dec_t rfl rfl (fun hc => ?_) (fun hc => ?_)) | (refine g_ndec_f rfl rfl (fun hc => ?_) (fun hc => ?_)) | (refine g_ndec_t rfl rfl (fun hc => ?_) (fun hc => ?_)) | (refine g_split rfl rfl (fun hc => ?_) (fun hc => ?_)) | (refine k_addI rfl rfl (by omega) (by omega) ?_) | (refine k_subI rfl rfl (by omega) (by omega) ?_) | (refine k_fieldAddr rfl ?_) | (refine k_eqlB rfl rfl ?_) | (refine k_neqB rfl rfl ?_) | (refine cw_cond_true rfl ?_) | (refine cw_cond_false rfl ?_) | (refine cw_cond_dec rfl (fun hc => ?_) (fun hc => ?_)) | (refine cw_cond_ndec rfl (fun hc => ?_) (fun hc => ?_)) | (refine cw_cond rfl (fun hc => ?_) (fun hc => ?_)) | (refine cw_block ?_) | (refine cw_exit ?_) | (refine then_exit ?_) | (refine in_exit ?_) | (refine in_exit_ne rfl ?_) | (refine in_normal ?_) | (refine cw_ret ?_) | (refine then_ret ?_) | (refine in_ret ?_) | (refine cw_skip ?_))
      refine rb_all (fuel := 10) (rs := [3, 9, 10]) (by kernel_rfl) (by kernel_rfl) rfl ?_
      simp only [List.forall_mem_cons, List.not_mem_nil, false_implies, implies_true, and_true]
      refine ⟨?_, ?_, ?_⟩
      · refine k_call (gcd_small (hz69.ext hEx) (hz9.ext hEx) (by omega) (by omega)) rfl ?_
        rintro v3 w3' ⟨hz3', hE3'⟩
        refine ⟨fun _ h => h.trans hE3', ?_⟩
        replace hEx := hEx.trans hE3'
        simp only [Int.natAbs_natCast] at hz3'
        try replace hb10 := hb10.ext hE3'
        try replace hb11 := hb11.ext hE3'
        refine rr_nil ?_
        refine rb_all (fuel := 9) (rs := [4, 9, 10]) (by kernel_rfl) (by kernel_rfl) rfl ?_
        simp only [List.forall_mem_cons, List.not_mem_nil, false_implies, implies_true, and_true]
        refine ⟨?_, ?_, ?_⟩
        · refine k_call (divMod_small (hz9.ext hEx) hz3' (by omega) hdv hdl) rfl ?_
          rintro v4 w4' ⟨q, r, rfl, hzq, hzr, hE4'⟩
          refine ⟨fun _ h => h.trans hE4', ?_⟩
          obtain ⟨qs, rfl, hql, hqo⟩ := hzq.out
          obtain ⟨rs, rfl, hrl, hro⟩ := hzr.out
          try have off10 : Off g10 (.agg qs.toArray) := hzq.off_lo hb10.lt
          try have off11 : Off g11 (.agg qs.toArray) := hzq.off_lo hb11.lt
          replace hzq := hzq.mono (lo' := w2.heap.size) (by have := hEx.size; omega)
          replace hEx := hEx.trans hE4'
          try replace hb10 := hb10.ext hE4'
          try replace hb11 := hb11.ext hE4'
          refine rr_nil ?_
          refine rb_pre (fuel := 5) (by kernel_rfl) (by kernel_rfl) [5, 6, 7, 8] _ _ (by kernel_rfl) ?_
          repeat' (first | (refine k_loadCA rfl (fun _ h => hb9.ext h) hl9 ?_) | (refine k_loadCA rfl (fun _ h => hb69.ext h) hl6 ?_) | (refine k_extract rfl rfl ?_) | (refine k_pure rfl ?_) | (refine then_normal ?_) | (refine cw_seq ?_) | (refine cw_region rfl ?_) | (refine rr_nil ?_) | (refine k_len rfl ?_) | (refine g_run rfl rfl ?_) | (refine g_skip rfl rfl ?_) | (refine g_dec_f rfl rfl (fun hc => ?_) (fun hc => ?_)) | (refine g_dec_t rfl rfl (fun hc => ?_) (fun hc => ?_)) | (refine g_ndec_f rfl rfl (fun hc => ?_) (fun hc => ?_)) | (refine g_ndec_t rfl rfl (fun hc => ?_) (fun hc => ?_)) | (refine g_split rfl rfl (fun hc => ?_) (fun hc => ?_)) | (refine k_addI rfl rfl (by omega) (by omega) ?_) | (refine k_subI rfl rfl (by omega) (by omega) ?_) | (refine k_fieldAddr rfl ?_) | (refine k_eqlB rfl rfl ?_) | (refine k_neqB rfl rfl ?_) | (refine cw_cond_true rfl ?_) | (refine cw_cond_false rfl ?_) | (refine cw_cond_dec rfl (fun hc => ?_) (fun hc => ?_)) | (refine cw_cond_ndec rfl (fun hc => ?_) (fun hc => ?_)) | (refine cw_cond rfl (fun hc => ?_) (fun hc => ?_)) | (refine cw_block ?_) | (refine cw_exit ?_) | (refine then_exit ?_) | (refine in_exit ?_) | (refine in_exit_ne rfl ?_) | (refine in_normal ?_) | (refine cw_ret ?_) | (refine then_ret ?_) | (refine in_ret ?_) | (refine cw_skip ?_))
          refine rb_all (fuel := 4) (rs := [9, 10]) (by kernel_rfl) (by kernel_rfl) rfl ?_
          simp only [List.forall_mem_cons, List.not_mem_nil, false_implies, implies_true, and_true]
          refine ⟨?_, ?_⟩
          · refine k_alloc (fun g10 w10 hn10 => ⟨fun _ h => h.trans hn10.ex, ?_⟩)
            try have off10 : Off g10 (.agg qs.toArray) := hzq.off_hi hn10.lo
            try have hne10 : g10 ≠ g11 := (by have := hb11.lt; have := hn10.lo; omega)
            have lo10 : w9.heap.size ≤ g10 := Nat.le_trans hEx.size hn10.lo
            have hb10 := hn10.blk
            replace hEx := hEx.trans hn10.ex
            try replace hz3' := hz3'.ext hn10.ex
            try replace hzq := hzq.ext hn10.ex
            try replace hb11 := hb11.ext hn10.ex
            refine rr_nil ?_
            refine rb_all (fuel := 3) (rs := [10]) (by kernel_rfl) (by kernel_rfl) rfl ?_
            rw [List.forall_mem_singleton]
            refine k_alloc (fun g11 w11 hn11 => ⟨fun _ h => h.trans hn11.ex, ?_⟩)
            try have off11 : Off g11 (.agg qs.toArray) := hzq.off_hi hn11.lo
            try have hne10 : g10 ≠ g11 := (by have := hb10.lt; have := hn11.lo; omega)
            have lo11 : w9.heap.size ≤ g11 := Nat.le_trans hEx.size hn11.lo
            have hb11 := hn11.blk
            replace hEx := hEx.trans hn11.ex
            try replace hz3' := hz3'.ext hn11.ex
            try replace hzq := hzq.ext hn11.ex
            try replace hb10 := hb10.ext hn11.ex
            refine rr_nil ?_
            refine rb_all (fuel := 2) (rs := [11]) (by kernel_rfl) (by kernel_rfl) rfl ?_
            rw [List.forall_mem_singleton]
            refine k_storeV (n := 2) rfl rfl hql hqo hb10 (by first | rfl | assumption) (fun w12 hc12 hb10' => ⟨fun _ h => h.chg hc12 (by omega), ?_⟩)
            replace hEx := hEx.chg hc12 (by omega)
            replace hzq := hzq.chgO hc12 off10
            replace hb10 := hb10'
            try replace hb11 := hb11.chg hc12 (Ne.symm hne10)
            refine rr_nil ?_
            refine rb_all (fuel := 1) (rs := [12]) (by kernel_rfl) (by kernel_rfl) rfl ?_
            rw [List.forall_mem_singleton]
            refine k_storeV (n := 2) rfl rfl hrl hro hb11 (by first | rfl | assumption) (fun w13 hc13 hb11' => ⟨fun _ h => h.chg hc13 (by omega), ?_⟩)
            replace hEx := hEx.chg hc13 (by omega)
            replace hzq := hzq.chgO hc13 off11
            replace hb11 := hb11'
            try replace hb10 := hb10.chg hc13 hne10
            refine rr_nil ?_
            refine rb_pre (fuel := 0) (by kernel_rfl) (by kernel_rfl) [13] _ _ (by kernel_rfl) ?_
            repeat' (first | (refine k_loadCA rfl (fun _ h => hb9.ext h) hl9 ?_) | (refine k_loadCA rfl (fun _ h => hb69.ext h) hl6 ?_) | (refine k_extract rfl rfl ?_) | (refine k_pure rfl ?_) | (refine then_normal ?_) | (refine cw_seq ?_) | (refine cw_region rfl ?_) | (refine rr_nil ?_) | (refine k_len rfl ?_) | (refine g_run rfl rfl ?_) | (refine g_skip rfl rfl ?_) | (refine g_dec_f rfl rfl (fun hc => ?_) (fun hc => ?_)) | (refine g_dec_t rfl rfl (fun hc => ?_) (fun hc => ?_)) | (refine g_ndec_f rfl rfl (fun hc => ?_) (fun hc => ?_)) | (refine g_ndec_t rfl rfl (fun hc => ?_) (fun hc => ?_)) | (refine g_split rfl rfl (fun hc => ?_) (fun hc => ?_)) | (refine k_addI rfl rfl (by omega) (by omega) ?_) | (refine k_subI rfl rfl (by omega) (by omega) ?_) | (refine k_fieldAddr rfl ?_) | (refine k_eqlB rfl rfl ?_) | (refine k_neqB rfl rfl ?_) | (refine cw_cond_true rfl ?_) | (refine cw_cond_false rfl ?_) | (refine cw_cond_dec rfl (fun hc => ?_) (fun hc => ?_)) | (refine cw_cond_ndec rfl (fun hc => ?_) (fun hc => ?_)) | (refine cw_cond rfl (fun hc => ?_) (fun hc => ?_)) | (refine cw_block ?_) | (refine cw_exit ?_) | (refine then_exit ?_) | (refine in_exit ?_) | (refine in_exit_ne rfl ?_) | (refine in_normal ?_) | (refine cw_ret ?_) | (refine then_ret ?_) | (refine in_ret ?_) | (refine cw_skip ?_))
            refine rb_done (by kernel_rfl) ?_
            exact then_normal ⟨⟨(g10, qs), ⟨hEx, hb10, hql, hqo, hzq⟩, rfl, trivial⟩, (by (repeat (first | exact agree_refl _ _ | refine agree_upd rfl ?_ | refine agree_updO rfl ?_ | refine agree_overIn rfl ?_ | refine agree_maskIn rfl ?_)))⟩
          · refine k_alloc (fun g11 w11 hn11 => ⟨fun _ h => h.trans hn11.ex, ?_⟩)
            try have off11 : Off g11 (.agg qs.toArray) := hzq.off_hi hn11.lo
            try have hne10 : g10 ≠ g11 := (by have := hb10.lt; have := hn11.lo; omega)
            have lo11 : w9.heap.size ≤ g11 := Nat.le_trans hEx.size hn11.lo
            have hb11 := hn11.blk
            replace hEx := hEx.trans hn11.ex
            try replace hz3' := hz3'.ext hn11.ex
            try replace hzq := hzq.ext hn11.ex
            try replace hb10 := hb10.ext hn11.ex
            refine rr_nil ?_
            refine rb_all (fuel := 3) (rs := [9]) (by kernel_rfl) (by kernel_rfl) rfl ?_
            rw [List.forall_mem_singleton]
            refine k_alloc (fun g10 w10 hn10 => ⟨fun _ h => h.trans hn10.ex, ?_⟩)
            try have off10 : Off g10 (.agg qs.toArray) := hzq.off_hi hn10.lo
            try have hne10 : g10 ≠ g11 := (by have := hb11.lt; have := hn10.lo; omega)
            have lo10 : w9.heap.size ≤ g10 := Nat.le_trans hEx.size hn10.lo
            have hb10 := hn10.blk
            replace hEx := hEx.trans hn10.ex
            try replace hz3' := hz3'.ext hn10.ex
            try replace hzq := hzq.ext hn10.ex
            try replace hb11 := hb11.ext hn10.ex
            refine rr_nil ?_
            refine rb_all (fuel := 2) (rs := [11]) (by kernel_rfl) (by kernel_rfl) rfl ?_
            rw [List.forall_mem_singleton]
            refine k_storeV (n := 2) rfl rfl hql hqo hb10 (by first | rfl | assumption) (fun w12 hc12 hb10' => ⟨fun _ h => h.chg hc12 (by omega), ?_⟩)
            replace hEx := hEx.chg hc12 (by omega)
            replace hzq := hzq.chgO hc12 off10
            replace hb10 := hb10'
            try replace hb11 := hb11.chg hc12 (Ne.symm hne10)
            refine rr_nil ?_
            refine rb_all (fuel := 1) (rs := [12]) (by kernel_rfl) (by kernel_rfl) rfl ?_
            rw [List.forall_mem_singleton]
            refine k_storeV (n := 2) rfl rfl hrl hro hb11 (by first | rfl | assumption) (fun w13 hc13 hb11' => ⟨fun _ h => h.chg hc13 (by omega), ?_⟩)
            replace hEx := hEx.chg hc13 (by omega)
            replace hzq := hzq.chgO hc13 off11
            replace hb11 := hb11'
            try replace hb10 := hb10.chg hc13 hne10
            refine rr_nil ?_
            refine rb_pre (fuel := 0) (by kernel_rfl) (by kernel_rfl) [13] _ _ (by kernel_rfl) ?_
            repeat' (first | (refine k_loadCA rfl (fun _ h => hb9.ext h) hl9 ?_) | (refine k_loadCA rfl (fun _ h => hb69.ext h) hl6 ?_) | (refine k_extract rfl rfl ?_) | (refine k_pure rfl ?_) | (refine then_normal ?_) | (refine cw_seq ?_) | (refine cw_region rfl ?_) | (refine rr_nil ?_) | (refine k_len rfl ?_) | (refine g_run rfl rfl ?_) | (refine g_skip rfl rfl ?_) | (refine g_dec_f rfl rfl (fun hc => ?_) (fun hc => ?_)) | (refine g_dec_t rfl rfl (fun hc => ?_) (fun hc => ?_)) | (refine g_ndec_f rfl rfl (fun hc => ?_) (fun hc => ?_)) | (refine g_ndec_t rfl rfl (fun hc => ?_) (fun hc => ?_)) | (refine g_split rfl rfl (fun hc => ?_) (fun hc => ?_)) | (refine k_addI rfl rfl (by omega) (by omega) ?_) | (refine k_subI rfl rfl (by omega) (by omega) ?_) | (refine k_fieldAddr rfl ?_) | (refine k_eqlB rfl rfl ?_) | (refine k_neqB rfl rfl ?_) | (refine cw_cond_true rfl ?_) | (refine cw_cond_false rfl ?_) | (refine cw_cond_dec rfl (fun hc => ?_) (fun hc => ?_)) | (refine cw_cond_ndec rfl (fun hc => ?_) (fun hc => ?_)) | (refine cw_cond rfl (fun hc => ?_) (fun hc => ?_)) | (refine cw_block ?_) | (refine cw_exit ?_) | (refine then_exit ?_) | (refine in_exit ?_) | (refine in_exit_ne rfl ?_) | (refine in_normal ?_) | (refine cw_ret ?_) | (refine then_ret ?_) | (refine in_ret ?_) | (refine cw_skip ?_))
            refine rb_done (by kernel_rfl) ?_
            exact then_normal ⟨⟨(g10, qs), ⟨hEx, hb10, hql, hqo, hzq⟩, rfl, trivial⟩, (by (repeat (first | exact agree_refl _ _ | refine agree_upd rfl ?_ | refine agree_updO rfl ?_ | refine agree_overIn rfl ?_ | refine agree_maskIn rfl ?_)))⟩
        · refine k_alloc (fun g10 w10 hn10 => ⟨fun _ h => h.trans hn10.ex, ?_⟩)
          try have off10 : Off g10 (.agg qs.toArray) := hzq.off_hi hn10.lo
          try have hne10 : g10 ≠ g11 := (by have := hb11.lt; have := hn10.lo; omega)
          have lo10 : w9.heap.size ≤ g10 := Nat.le_trans hEx.size hn10.lo
          have hb10 := hn10.blk
          replace hEx := hEx.trans hn10.ex
          try replace hz3' := hz3'.ext hn10.ex
          try replace hzq := hzq.ext hn10.ex
          try replace hb11 := hb11.ext hn10.ex
          refine rr_nil ?_
          refine rb_all (fuel := 8) (rs := [4, 10]) (by kernel_rfl) (by kernel_rfl) rfl ?_
          simp only [List.forall_mem_cons, List.not_mem_nil, false_implies, implies_true, and_true]
          refine ⟨?_, ?_⟩
          · refine k_call (divMod_small (hz9.ext hEx) hz3' (by omega) hdv hdl) rfl ?_
            rintro v4 w4' ⟨q, r, rfl, hzq, hzr, hE4'⟩
            refine ⟨fun _ h => h.trans hE4', ?_⟩
            obtain ⟨qs, rfl, hql, hqo⟩ := hzq.out
            obtain ⟨rs, rfl, hrl, hro⟩ := hzr.out
            try have off10 : Off g10 (.agg qs.toArray) := hzq.off_lo hb10.lt
            try have off11 : Off g11 (.agg qs.toArray) := hzq.off_lo hb11.lt
            replace hzq := hzq.mono (lo' := w2.heap.size) (by have := hEx.size; omega)
            replace hEx := hEx.trans hE4'
            try replace hb10 := hb10.ext hE4'
            try replace hb11 := hb11.ext hE4'
            refine rr_nil ?_
            refine rb_pre (fuel := 4) (by kernel_rfl) (by kernel_rfl) [5, 6, 7, 8] _ _ (by kernel_rfl) ?_
            repeat' (first | (refine k_loadCA rfl (fun _ h => hb9.ext h) hl9 ?_) | (refine k_loadCA rfl (fun _ h => hb69.ext h) hl6 ?_) | (refine k_extract rfl rfl ?_) | (refine k_pure rfl ?_) | (refine then_normal ?_) | (refine cw_seq ?_) | (refine cw_region rfl ?_) | (refine rr_nil ?_) | (refine k_len rfl ?_) | (refine g_run rfl rfl ?_) | (refine g_skip rfl rfl ?_) | (refine g_dec_f rfl rfl (fun hc => ?_) (fun hc => ?_)) | (refine g_dec_t rfl rfl (fun hc => ?_) (fun hc => ?_)) | (refine g_ndec_f rfl rfl (fun hc => ?_) (fun hc => ?_)) | (refine g_ndec_t rfl rfl (fun hc => ?_) (fun hc => ?_)) | (refine g_split rfl rfl (fun hc => ?_) (fun hc => ?_)) | (refine k_addI rfl rfl (by omega) (by omega) ?_) | (refine k_subI rfl rfl (by omega) (by omega) ?_) | (refine k_fieldAddr rfl ?_) | (refine k_eqlB rfl rfl ?_) | (refine k_neqB rfl rfl ?_) | (refine cw_cond_true rfl ?_) | (refine cw_cond_false rfl ?_) | (refine cw_cond_dec rfl (fun hc => ?_) (fun hc => ?_)) | (refine cw_cond_ndec rfl (fun hc => ?_) (fun hc => ?_)) | (refine cw_cond rfl (fun hc => ?_) (fun hc => ?_)) | (refine cw_block ?_) | (refine cw_exit ?_) | (refine then_exit ?_) | (refine in_exit ?_) | (refine in_exit_ne rfl ?_) | (refine in_normal ?_) | (refine cw_ret ?_) | (refine then_ret ?_) | (refine in_ret ?_) | (refine cw_skip ?_))
            refine rb_all (fuel := 3) (rs := [10]) (by kernel_rfl) (by kernel_rfl) rfl ?_
            rw [List.forall_mem_singleton]
            refine k_alloc (fun g11 w11 hn11 => ⟨fun _ h => h.trans hn11.ex, ?_⟩)
            try have off11 : Off g11 (.agg qs.toArray) := hzq.off_hi hn11.lo
            try have hne10 : g10 ≠ g11 := (by have := hb10.lt; have := hn11.lo; omega)
            have lo11 : w9.heap.size ≤ g11 := Nat.le_trans hEx.size hn11.lo
            have hb11 := hn11.blk
            replace hEx := hEx.trans hn11.ex
            try replace hz3' := hz3'.ext hn11.ex
            try replace hzq := hzq.ext hn11.ex
            try replace hb10 := hb10.ext hn11.ex
            refine rr_nil ?_
            refine rb_all (fuel := 2) (rs := [11]) (by kernel_rfl) (by kernel_rfl) rfl ?_
            rw [List.forall_mem_singleton]
            refine k_storeV (n := 2) rfl rfl hql hqo hb10 (by first | rfl | assumption) (fun w12 hc12 hb10' => ⟨fun _ h => h.chg hc12 (by omega), ?_⟩)
            replace hEx := hEx.chg hc12 (by omega)
            replace hzq := hzq.chgO hc12 off10
            replace hb10 := hb10'
            try replace hb11 := hb11.chg hc12 (Ne.symm hne10)
            refine rr_nil ?_
            refine rb_all (fuel := 1) (rs := [12]) (by kernel_rfl) (by kernel_rfl) rfl ?_
            rw [List.forall_mem_singleton]
            refine k_storeV (n := 2) rfl rfl hrl hro hb11 (by first | rfl | assumption) (fun w13 hc13 hb11' => ⟨fun _ h => h.chg hc13 (by omega), ?_⟩)
            replace hEx := hEx.chg hc13 (by omega)
            replace hzq := hzq.chgO hc13 off11
            replace hb11 := hb11'
            try replace hb10 := hb10.chg hc13 hne10
            refine rr_nil ?_
            refine rb_pre (fuel := 0) (by kernel_rfl) (by kernel_rfl) [13] _ _ (by kernel_rfl) ?_
            repeat' (first | (refine k_loadCA rfl (fun _ h => hb9.ext h) hl9 ?_) | (refine k_loadCA rfl (fun _ h => hb69.ext h) hl6 ?_) | (refine k_extract rfl rfl ?_) | (refine k_pure rfl ?_) | (refine then_normal ?_) | (refine cw_seq ?_) | (refine cw_region rfl ?_) | (refine rr_nil ?_) | (refine k_len rfl ?_) | (refine g_run rfl rfl ?_) | (refine g_skip rfl rfl ?_) | (refine g_dec_f rfl rfl (fun hc => ?_) (fun hc => ?_)) | (refine g_dec_t rfl rfl (fun hc => ?_) (fun hc => ?_)) | (refine g_ndec_f rfl rfl (fun hc => ?_) (fun hc => ?_)) | (refine g_ndec_t rfl rfl (fun hc => ?_) (fun hc => ?_)) | (refine g_split rfl rfl (fun hc => ?_) (fun hc => ?_)) | (refine k_addI rfl rfl (by omega) (by omega) ?_) | (refine k_subI rfl rfl (by omega) (by omega) ?_) | (refine k_fieldAddr rfl ?_) | (refine k_eqlB rfl rfl ?_) | (refine k_neqB rfl rfl ?_) | (refine cw_cond_true rfl ?_) | (refine cw_cond_false rfl ?_) | (refine cw_cond_dec rfl (fun hc => ?_) (fun hc => ?_)) | (refine cw_cond_ndec rfl (fun hc => ?_) (fun hc => ?_)) | (refine cw_cond rfl (fun hc => ?_) (fun hc => ?_)) | (refine cw_block ?_) | (refine cw_exit ?_) | (refine then_exit ?_) | (refine in_exit ?_) | (refine in_exit_ne rfl ?_) | (refine in_normal ?_) | (refine cw_ret ?_) | (refine then_ret ?_) | (refine in_ret ?_) | (refine cw_skip ?_))
            refine rb_done (by kernel_rfl) ?_
            exact then_normal ⟨⟨(g10, qs), ⟨hEx, hb10, hql, hqo, hzq⟩, rfl, trivial⟩, (by (repeat (first | exact agree_refl _ _ | refine agree_upd rfl ?_ | refine agree_updO rfl ?_ | refine agree_overIn rfl ?_ | refine agree_maskIn rfl ?_)))⟩
          · refine k_alloc (fun g11 w11 hn11 => ⟨fun _ h => h.trans hn11.ex, ?_⟩)
            try have off11 : Off g11 (.agg qs.toArray) := hzq.off_hi hn11.lo
            try have hne10 : g10 ≠ g11 := (by have := hb10.lt; have := hn11.lo; omega)
            have lo11 : w9.heap.size ≤ g11 := Nat.le_trans hEx.size hn11.lo
            have hb11 := hn11.blk
            replace hEx := hEx.trans hn11.ex
            try replace hz3' := hz3'.ext hn11.ex
            try replace hzq := hzq.ext hn11.ex
            try replace hb10 := hb10.ext hn11.ex
            refine rr_nil ?_
            refine rb_all (fuel := 7) (rs := [4]) (by kernel_rfl) (by kernel_rfl) rfl ?_
            rw [List.forall_mem_singleton]
            refine k_call (divMod_small (hz9.ext hEx) hz3' (by omega) hdv hdl) rfl ?_
            rintro v4 w4' ⟨q, r, rfl, hzq, hzr, hE4'⟩
            refine ⟨fun _ h => h.trans hE4', ?_⟩
            obtain ⟨qs, rfl, hql, hqo⟩ := hzq.out
            obtain ⟨rs, rfl, hrl, hro⟩ := hzr.out
            try have off10 : Off g10 (.agg qs.toArray) := hzq.off_lo hb10.lt
            try have off11 : Off g11 (.agg qs.toArray) := hzq.off_lo hb11.lt
            replace hzq := hzq.mono (lo' := w2.heap.size) (by have := hEx.size; omega)
            replace hEx := hEx.trans hE4'
            try replace hb10 := hb10.ext hE4'
            try replace hb11 := hb11.ext hE4'
            refine rr_nil ?_
            refine rb_pre (fuel := 3) (by kernel_rfl) (by kernel_rfl) [5, 6, 7, 8] _ _ (by kernel_rfl) ?_
            repeat' (first | (refine k_loadCA rfl (fun _ h => hb9.ext h) hl9 ?_) | (refine k_loadCA rfl (fun _ h => hb69.ext h) hl6 ?_) | (refine k_extract rfl rfl ?_) | (refine k_pure rfl ?_) | (refine then_normal ?_) | (refine cw_seq ?_) | (refine cw_region rfl ?_) | (refine rr_nil ?_) | (refine k_len rfl ?_) | (refine g_run rfl rfl ?_) | (refine g_skip rfl rfl ?_) | (refine g_dec_f rfl rfl (fun hc => ?_) (fun hc => ?_)) | (refine g_dec_t rfl rfl (fun hc => ?_) (fun hc => ?_)) | (refine g_ndec_f rfl rfl (fun hc => ?_) (fun hc => ?_)) | (refine g_ndec_t rfl rfl (fun hc => ?_) (fun hc => ?_)) | (refine g_split rfl rfl (fun hc => ?_) (fun hc => ?_)) | (refine k_addI rfl rfl (by omega) (by omega) ?_) | (refine k_subI rfl rfl (by omega) (by omega) ?_) | (refine k_fieldAddr rfl ?_) | (refine k_eqlB rfl rfl ?_) | (refine k_neqB rfl rfl ?_) | (refine cw_cond_true rfl ?_) | (refine cw_cond_false rfl ?_) | (refine cw_cond_dec rfl (fun hc => ?_) (fun hc => ?_)) | (refine cw_cond_ndec rfl (fun hc => ?_) (fun hc => ?_)) | (refine cw_cond rfl (fun hc => ?_) (fun hc => ?_)) | (refine cw_block ?_) | (refine cw_exit ?_) | (refine then_exit ?_) | (refine in_exit ?_) | (refine in_exit_ne rfl ?_) | (refine in_normal ?_) | (refine cw_ret ?_) | (refine then_ret ?_) | (refine in_ret ?_) | (refine cw_skip ?_))
            refine rb_all (fuel := 2) (rs := [11]) (by kernel_rfl) (by kernel_rfl) rfl ?_
            rw [List.forall_mem_singleton]
            refine k_storeV (n := 2) rfl rfl hql hqo hb10 (by first | rfl | assumption) (fun w12 hc12 hb10' => ⟨fun _ h => h.chg hc12 (by omega), ?_⟩)
            replace hEx := hEx.chg hc12 (by omega)
            replace hzq := hzq.chgO hc12 off10
            replace hb10 := hb10'
            try replace hb11 := hb11.chg hc12 (Ne.symm hne10)
            refine rr_nil ?_
            refine rb_all (fuel := 1) (rs := [12]) (by kernel_rfl) (by kernel_rfl) rfl ?_
            rw [List.forall_mem_singleton]
            refine k_storeV (n := 2) rfl rfl hrl hro hb11 (by first | rfl | assumption) (fun w13 hc13 hb11' => ⟨fun _ h => h.chg hc13 (by omega), ?_⟩)
            replace hEx := hEx.chg hc13 (by omega)
            replace hzq := hzq.chgO hc13 off11
            replace hb11 := hb11'
            try replace hb10 := hb10.chg hc13 hne10
            refine rr_nil ?_
            refine rb_pre (fuel := 0) (by kernel_rfl) (by kernel_rfl) [13] _ _ (by kernel_rfl) ?_
            repeat' (first | (refine k_loadCA rfl (fun _ h => hb9.ext h) hl9 ?_) | (refine k_loadCA rfl (fun _ h => hb69.ext h) hl6 ?_) | (refine k_extract rfl rfl ?_) | (refine k_pure rfl ?_) | (refine then_normal ?_) | (refine cw_seq ?_) | (refine cw_region rfl ?_) | (refine rr_nil ?_) | (refine k_len rfl ?_) | (refine g_run rfl rfl ?_) | (refine g_skip rfl rfl ?_) | (refine g_dec_f rfl rfl (fun hc => ?_) (fun hc => ?_)) | (refine g_dec_t rfl rfl (fun hc => ?_) (fun hc => ?_)) | (refine g_ndec_f rfl rfl (fun hc => ?_) (fun hc => ?_)) | (refine g_ndec_t rfl rfl (fun hc => ?_) (fun hc => ?_)) | (refine g_split rfl rfl (fun hc => ?_) (fun hc => ?_)) | (refine k_addI rfl rfl (by omega) (by omega) ?_) | (refine k_subI rfl rfl (by omega) (by omega) ?_) | (refine k_fieldAddr rfl ?_) | (refine k_eqlB rfl rfl ?_) | (refine k_neqB rfl rfl ?_) | (refine cw_cond_true rfl ?_) | (refine cw_cond_false rfl ?_) | (refine cw_cond_dec rfl (fun hc => ?_) (fun hc => ?_)) | (refine cw_cond_ndec rfl (fun hc => ?_) (fun hc => ?_)) | (refine cw_cond rfl (fun hc => ?_) (fun hc => ?_)) | (refine cw_block ?_) | (refine cw_exit ?_) | (refine then_exit ?_) | (refine in_exit ?_) | (refine in_exit_ne rfl ?_) | (refine in_normal ?_) | (refine cw_ret ?_) | (refine then_ret ?_) | (refine in_ret ?_) | (refine cw_skip ?_))
            refine rb_done (by kernel_rfl) ?_
            exact then_normal ⟨⟨(g10, qs), ⟨hEx, hb10, hql, hqo, hzq⟩, rfl, trivial⟩, (by (repeat (first | exact agree_refl _ _ | refine agree_upd rfl ?_ | refine agree_updO rfl ?_ | refine agree_overIn rfl ?_ | refine agree_maskIn rfl ?_)))⟩
        · refine k_alloc (fun g11 w11 hn11 => ⟨fun _ h => h.trans hn11.ex, ?_⟩)
          try have off11 : Off g11 (.agg qs.toArray) := hzq.off_hi hn11.lo
          try have hne10 : g10 ≠ g11 := (by have := hb10.lt; have := hn11.lo; omega)
          have lo11 : w9.heap.size ≤ g11 := Nat.le_trans hEx.size hn11.lo
          have hb11 := hn11.blk
          replace hEx := hEx.trans hn11.ex
          try replace hz3' := hz3'.ext hn11.ex
          try replace hzq := hzq.ext hn11.ex
          try replace hb10 := hb10.ext hn11.ex
          refine rr_nil ?_
          refine rb_all (fuel := 8) (rs := [4, 9]) (by kernel_rfl) (by kernel_rfl) rfl ?_
          simp only [List.forall_mem_cons, List.not_mem_nil, false_implies, implies_true, and_true]
          refine ⟨?_, ?_⟩
          · refine k_call (divMod_small (hz9.ext hEx) hz3' (by omega) hdv hdl) rfl ?_
            rintro v4 w4' ⟨q, r, rfl, hzq, hzr, hE4'⟩
            refine ⟨fun _ h => h.trans hE4', ?_⟩
            obtain ⟨qs, rfl, hql, hqo⟩ := hzq.out
            obtain ⟨rs, rfl, hrl, hro⟩ := hzr.out
            try have off10 : Off g10 (.agg qs.toArray) := hzq.off_lo hb10.lt
            try have off11 : Off g11 (.agg qs.toArray) := hzq.off_lo hb11.lt
            replace hzq := hzq.mono (lo' := w2.heap.size) (by have := hEx.size; omega)
            replace hEx := hEx.trans hE4'
            try replace hb10 := hb10.ext hE4'
            try replace hb11 := hb11.ext hE4'
            refine rr_nil ?_
            refine rb_pre (fuel := 4) (by kernel_rfl) (by kernel_rfl) [5, 6, 7, 8] _ _ (by kernel_rfl) ?_
            repeat' (first | (refine k_loadCA rfl (fun _ h => hb9.ext h) hl9 ?_) | (refine k_loadCA rfl (fun _ h => hb69.ext h) hl6 ?_) | (refine k_extract rfl rfl ?_) | (refine k_pure rfl ?_) | (refine then_normal ?_) | (refine cw_seq ?_) | (refine cw_region rfl ?_) | (refine rr_nil ?_) | (refine k_len rfl ?_) | (refine g_run rfl rfl ?_) | (refine g_skip rfl rfl ?_) | (refine g_dec_f rfl rfl (fun hc => ?_) (fun hc => ?_)) | (refine g_dec_t rfl rfl (fun hc => ?_) (fun hc => ?_)) | (refine g_ndec_f rfl rfl (fun hc => ?_) (fun hc => ?_)) | (refine g_ndec_t rfl rfl (fun hc => ?_) (fun hc => ?_)) | (refine g_split rfl rfl (fun hc => ?_) (fun hc => ?_)) | (refine k_addI rfl rfl (by omega) (by omega) ?_) | (refine k_subI rfl rfl (by omega) (by omega) ?_) | (refine k_fieldAddr rfl ?_) | (refine k_eqlB rfl rfl ?_) | (refine k_neqB rfl rfl ?_) | (refine cw_cond_true rfl ?_) | (refine cw_cond_false rfl ?_) | (refine cw_cond_dec rfl (fun hc => ?_) (fun hc => ?_)) | (refine cw_cond_ndec rfl (fun hc => ?_) (fun hc => ?_)) | (refine cw_cond rfl (fun hc => ?_) (fun hc => ?_)) | (refine cw_block ?_) | (refine cw_exit ?_) | (refine then_exit ?_) | (refine in_exit ?_) | (refine in_exit_ne rfl ?_) | (refine in_normal ?_) | (refine cw_ret ?_) | (refine then_ret ?_) | (refine in_ret ?_) | (refine cw_skip ?_))
            refine rb_all (fuel := 3) (rs := [9]) (by kernel_rfl) (by kernel_rfl) rfl ?_
            rw [List.forall_mem_singleton]
            refine k_alloc (fun g10 w10 hn10 => ⟨fun _ h => h.trans hn10.ex, ?_⟩)
            try have off10 : Off g10 (.agg qs.toArray) := hzq.off_hi hn10.lo
            try have hne10 : g10 ≠ g11 := (by have := hb11.lt; have := hn10.lo; omega)
            have lo10 : w9.heap.size ≤ g10 := Nat.le_trans hEx.size hn10.lo
            have hb10 := hn10.blk
            replace hEx := hEx.trans hn10.ex
            try replace hz3' := hz3'.ext hn10.ex
            try replace hzq := hzq.ext hn10.ex
            try replace hb11 := hb11.ext hn10.ex
            refine rr_nil ?_
            refine rb_all (fuel := 2) (rs := [11]) (by kernel_rfl) (by kernel_rfl) rfl ?_
            rw [List.forall_mem_singleton]
            refine k_storeV (n := 2) rfl rfl hql hqo hb10 (by first | rfl | assumption) (fun w12 hc12 hb10' => ⟨fun _ h => h.chg hc12 (by omega), ?_⟩)
            replace hEx := hEx.chg hc12 (by omega)
            replace hzq := hzq.chgO hc12 off10
            replace hb10 := hb10'
            try replace hb11 := hb11.chg hc12 (Ne.symm hne10)
            refine rr_nil ?_
            refine rb_all (fuel := 1) (rs := [12]) (by kernel_rfl) (by kernel_rfl) rfl ?_
            rw [List.forall_mem_singleton]
            refine k_storeV (n := 2) rfl rfl hrl hro hb11 (by first | rfl | assumption) (fun w13 hc13 hb11' => ⟨fun _ h => h.chg hc13 (by omega), ?_⟩)
            replace hEx := hEx.chg hc13 (by omega)
            replace hzq := hzq.chgO hc13 off11
            replace hb11 := hb11'
            try replace hb10 := hb10.chg hc13 hne10
            refine rr_nil ?_
            refine rb_pre (fuel := 0) (by kernel_rfl) (by kernel_rfl) [13] _ _ (by kernel_rfl) ?_
            repeat' (first | (refine k_loadCA rfl (fun _ h => hb9.ext h) hl9 ?_) | (refine k_loadCA rfl (fun _ h => hb69.ext h) hl6 ?_) | (refine k_extract rfl rfl ?_) | (refine k_pure rfl ?_) | (refine then_normal ?_) | (refine cw_seq ?_) | (refine cw_region rfl ?_) | (refine rr_nil ?_) | (refine k_len rfl ?_) | (refine g_run rfl rfl ?_) | (refine g_skip rfl rfl ?_) | (refine g_dec_f rfl rfl (fun hc => ?_) (fun hc => ?_)) | (refine g_dec_t rfl rfl (fun hc => ?_) (fun hc => ?_)) | (refine g_ndec_f rfl rfl (fun hc => ?_) (fun hc => ?_)) | (refine g_ndec_t rfl rfl (fun hc => ?_) (fun hc => ?_)) | (refine g_split rfl rfl (fun hc => ?_) (fun hc => ?_)) | (refine k_addI rfl rfl (by omega) (by omega) ?_) | (refine k_subI rfl rfl (by omega) (by omega) ?_) | (refine k_fieldAddr rfl ?_) | (refine k_eqlB rfl rfl ?_) | (refine k_neqB rfl rfl ?_) | (refine cw_cond_true rfl ?_) | (refine cw_cond_false rfl ?_) | (refine cw_cond_dec rfl (fun hc => ?_) (fun hc => ?_)) | (refine cw_cond_ndec rfl (fun hc => ?_) (fun hc => ?_)) | (refine cw_cond rfl (fun hc => ?_) (fun hc => ?_)) | (refine cw_block ?_) | (refine cw_exit ?_) | (refine then_exit ?_) | (refine in_exit ?_) | (refine in_exit_ne rfl ?_) | (refine in_normal ?_) | (refine cw_ret ?_) | (refine then_ret ?_) | (refine in_ret ?_) | (refine cw_skip ?_))
            refine rb_done (by kernel_rfl) ?_
            exact then_normal ⟨⟨(g10, qs), ⟨hEx, hb10, hql, hqo, hzq⟩, rfl, trivial⟩, (by (repeat (first | exact agree_refl _ _ | refine agree_upd rfl ?_ | refine agree_updO rfl ?_ | refine agree_overIn rfl ?_ | refine agree_maskIn rfl ?_)))⟩
          · refine k_alloc (fun g10 w10 hn10 => ⟨fun _ h => h.trans hn10.ex, ?_⟩)
            try have off10 : Off g10 (.agg qs.toArray) := hzq.off_hi hn10.lo
            try have hne10 : g10 ≠ g11 := (by have := hb11.lt; have := hn10.lo; omega)
            have lo10 : w9.heap.size ≤ g10 := Nat.le_trans hEx.size hn10.lo
            have hb10 := hn10.blk
            replace hEx := hEx.trans hn10.ex
            try replace hz3' := hz3'.ext hn10.ex
            try replace hzq := hzq.ext hn10.ex
            try replace hb11 := hb11.ext hn10.ex
            refine rr_nil ?_
            refine rb_all (fuel := 7) (rs := [4]) (by kernel_rfl) (by kernel_rfl) rfl ?_
            rw [List.forall_mem_singleton]
            refine k_call (divMod_small (hz9.ext hEx) hz3' (by omega) hdv hdl) rfl ?_
            rintro v4 w4' ⟨q, r, rfl, hzq, hzr, hE4'⟩
            refine ⟨fun _ h => h.trans hE4', ?_⟩
            obtain ⟨qs, rfl, hql, hqo⟩ := hzq.out
            obtain ⟨rs, rfl, hrl, hro⟩ := hzr.out
            try have off10 : Off g10 (.agg qs.toArray) := hzq.off_lo hb10.lt
            try have off11 : Off g11 (.agg qs.toArray) := hzq.off_lo hb11.lt
            replace hzq := hzq.mono (lo' := w2.heap.size) (by have := hEx.size; omega)
            replace hEx := hEx.trans hE4'
            try replace hb10 := hb10.ext hE4'
            try replace hb11 := hb11.ext hE4'
            refine rr_nil ?_
            refine rb_pre (fuel := 3) (by kernel_rfl) (by kernel_rfl) [5, 6, 7, 8] _ _ (by kernel_rfl) ?_
            repeat' (first | (refine k_loadCA rfl (fun _ h => hb9.ext h) hl9 ?_) | (refine k_loadCA rfl (fun _ h => hb69.ext h) hl6 ?_) | (refine k_extract rfl rfl ?_) | (refine k_pure rfl ?_) | (refine then_normal ?_) | (refine cw_seq ?_) | (refine cw_region rfl ?_) | (refine rr_nil ?_) | (refine k_len rfl ?_) | (refine g_run rfl rfl ?_) | (refine g_skip rfl rfl ?_) | (refine g_dec_f rfl rfl (fun hc => ?_) (fun hc => ?_)) | (refine g_dec_t rfl rfl (fun hc => ?_) (fun hc => ?_)) | (refine g_ndec_f rfl rfl (fun hc => ?_) (fun hc => ?_)) | (refine g_ndec_t rfl rfl (fun hc => ?_) (fun hc => ?_)) | (refine g_split rfl rfl (fun hc => ?_) (fun hc => ?_)) | (refine k_addI rfl rfl (by omega) (by omega) ?_) | (refine k_subI rfl rfl (by omega) (by omega) ?_) | (refine k_fieldAddr rfl ?_) | (refine k_eqlB rfl rfl ?_) | (refine k_neqB rfl rfl ?_) | (refine cw_cond_true rfl ?_) | (refine cw_cond_false rfl ?_) | (refine cw_cond_dec rfl (fun hc => ?_) (fun hc => ?_)) | (refine cw_cond_ndec rfl (fun hc => ?_) (fun hc => ?_)) | (refine cw_cond rfl (fun hc => ?_) (fun hc => ?_)) | (refine cw_block ?_) | (refine cw_exit ?_) | (refine then_exit ?_) | (refine in_exit ?_) | (refine in_exit_ne rfl ?_) | (refine in_normal ?_) | (refine cw_ret ?_) | (refine then_ret ?_) | (refine in_ret ?_) | (refine cw_skip ?_))
            refine rb_all (fuel := 2) (rs := [11]) (by kernel_rfl) (by kernel_rfl) rfl ?_
            rw [List.forall_mem_singleton]
            refine k_storeV (n := 2) rfl rfl hql hqo hb10 (by first | rfl | assumption) (fun w12 hc12 hb10' => ⟨fun _ h => h.chg hc12 (by omega), ?_⟩)
            replace hEx := hEx.chg hc12 (by omega)
            replace hzq := hzq.chgO hc12 off10
            replace hb10 := hb10'
            try replace hb11 := hb11.chg hc12 (Ne.symm hne10)
            refine rr_nil ?_
            refine rb_all (fuel := 1) (rs := [12]) (by kernel_rfl) (by kernel_rfl) rfl ?_
            rw [List.forall_mem_singleton]
            refine k_storeV (n := 2) rfl rfl hrl hro hb11 (by first | rfl | assumption) (fun w13 hc13 hb11' => ⟨fun _ h => h.chg hc13 (by omega), ?_⟩)
            replace hEx := hEx.chg hc13 (by omega)
            replace hzq := hzq.chgO hc13 off11
            replace hb11 := hb11'
            try replace hb10 := hb10.chg hc13 hne10
            refine rr_nil ?_
            refine rb_pre (fuel := 0) (by kernel_rfl) (by kernel_rfl) [13] _ _ (by kernel_rfl) ?_
            repeat' (first | (refine k_loadCA rfl (fun _ h => hb9.ext h) hl9 ?_) | (refine k_loadCA rfl (fun _ h => hb69.ext h) hl6 ?_) | (refine k_extract rfl rfl ?_) | (refine k_pure rfl ?_) | (refine then_normal ?_) | (refine cw_seq ?_) | (refine cw_region rfl ?_) | (refine rr_nil ?_) | (refine k_len rfl ?_) | (refine g_run rfl rfl ?_) | (refine g_skip rfl rfl ?_) | (refine g_dec_f rfl rfl (fun hc => ?_) (fun hc => ?_)) | (refine g_dec_t rfl rfl (fun hc => ?_) (fun hc => ?_)) | (refine g_ndec_f rfl rfl (fun hc => ?_) (fun hc => ?_)) | (refine g_ndec_t rfl rfl (fun hc => ?_) (fun hc => ?_)) | (refine g_split rfl rfl (fun hc => ?_) (fun hc => ?_)) | (refine k_addI rfl rfl (by omega) (by omega) ?_) | (refine k_subI rfl rfl (by omega) (by omega) ?_) | (refine k_fieldAddr rfl ?_) | (refine k_eqlB rfl rfl ?_) | (refine k_neqB rfl rfl ?_) | (refine cw_cond_true rfl ?_) | (refine cw_cond_false rfl ?_) | (refine cw_cond_dec rfl (fun hc => ?_) (fun hc => ?_)) | (refine cw_cond_ndec rfl (fun hc => ?_) (fun hc => ?_)) | (refine cw_cond rfl (fun hc => ?_) (fun hc => ?_)) | (refine cw_block ?_) | (refine cw_exit ?_) | (refine then_exit ?_) | (refine in_exit ?_) | (refine in_exit_ne rfl ?_) | (refine in_normal ?_) | (refine cw_ret ?_) | (refine then_ret ?_) | (refine in_ret ?_) | (refine cw_skip ?_))
            refine rb_done (by kernel_rfl) ?_
            exact then_normal ⟨⟨(g10, qs), ⟨hEx, hb10, hql, hqo, hzq⟩, rfl, trivial⟩, (by (repeat (first | exact agree_refl _ _ | refine agree_upd rfl ?_ | refine agree_updO rfl ?_ | refine agree_overIn rfl ?_ | refine agree_maskIn rfl ?_)))⟩
      · refine k_alloc (fun g10 w10 hn10 => ⟨fun _ h => h.trans hn10.ex, ?_⟩)
        try have off10 : Off g10 (.agg qs.toArray) := hzq.off_hi hn10.lo
        try have hne10 : g10 ≠ g11 := (by have := hb11.lt; have := hn10.lo; omega)
        have lo10 : w9.heap.size ≤ g10 := Nat.le_trans hEx.size hn10.lo
        have hb10 := hn10.blk
        replace hEx := hEx.trans hn10.ex
        try replace hz3' := hz3'.ext hn10.ex
        try replace hzq := hzq.ext hn10.ex
        try replace hb11 := hb11.ext hn10.ex
        refine rr_nil ?_
        refine rb_all (fuel := 9) (rs := [3, 10]) (by kernel_rfl) (by kernel_rfl) rfl ?_
        simp only [List.forall_mem_cons, List.not_mem_nil, false_implies, implies_true, and_true]
        refine ⟨?_, ?_⟩
        · refine k_call (gcd_small (hz69.ext hEx) (hz9.ext hEx) (by omega) (by omega)) rfl ?_
          rintro v3 w3' ⟨hz3', hE3'⟩
          refine ⟨fun _ h => h.trans hE3', ?_⟩
          replace hEx := hEx.trans hE3'
          simp only [Int.natAbs_natCast] at hz3'
          try replace hb10 := hb10.ext hE3'
          try replace hb11 := hb11.ext hE3'
          refine rr_nil ?_
          refine rb_all (fuel := 8) (rs := [4, 10]) (by kernel_rfl) (by kernel_rfl) rfl ?_
          simp only [List.forall_mem_cons, List.not_mem_nil, false_implies, implies_true, and_true]
          refine ⟨?_, ?_⟩
          · refine k_call (divMod_small (hz9.ext hEx) hz3' (by omega) hdv hdl) rfl ?_
            rintro v4 w4' ⟨q, r, rfl, hzq, hzr, hE4'⟩
            refine ⟨fun _ h => h.trans hE4', ?_⟩
            obtain ⟨qs, rfl, hql, hqo⟩ := hzq.out
            obtain ⟨rs, rfl, hrl, hro⟩ := hzr.out
            try have off10 : Off g10 (.agg qs.toArray) := hzq.off_lo hb10.lt
            try have off11 : Off g11 (.agg qs.toArray) := hzq.off_lo hb11.lt
            replace hzq := hzq.mono (lo' := w2.heap.size) (by have := hEx.size; omega)
            replace hEx := hEx.trans hE4'
            try replace hb10 := hb10.ext hE4'
            try replace hb11 := hb11.ext hE4'
            refine rr_nil ?_
            refine rb_pre (fuel := 4) (by kernel_rfl) (by kernel_rfl) [5, 6, 7, 8] _ _ (by kernel_rfl) ?_
            repeat' (first | (refine k_loadCA rfl (fun _ h => hb9.ext h) hl9 ?_) | (refine k_loadCA rfl (fun _ h => hb69.ext h) hl6 ?_) | (refine k_extract rfl rfl ?_) | (refine k_pure rfl ?_) | (refine then_normal ?_) | (refine cw_seq ?_) | (refine cw_region rfl ?_) | (refine rr_nil ?_) | (refine k_len rfl ?_) | (refine g_run rfl rfl ?_) | (refine g_skip rfl rfl ?_) | (refine g_dec_f rfl rfl (fun hc => ?_) (fun hc => ?_)) | (refine g_dec_t rfl rfl (fun hc => ?_) (fun hc => ?_)) | (refine g_ndec_f rfl rfl (fun hc => ?_) (fun hc => ?_)) | (refine g_ndec_t rfl rfl (fun hc => ?_) (fun hc => ?_)) | (refine g_split rfl rfl (fun hc => ?_) (fun hc => ?_)) | (refine k_addI rfl rfl (by omega) (by omega) ?_) | (refine k_subI rfl rfl (by omega) (by omega) ?_) | (refine k_fieldAddr rfl ?_) | (refine k_eqlB rfl rfl ?_) | (refine k_neqB rfl rfl ?_) | (refine cw_cond_true rfl ?_) | (refine cw_cond_false rfl ?_) | (refine cw_cond_dec rfl (fun hc => ?_) (fun hc => ?_)) | (refine cw_cond_ndec rfl (fun hc => ?_) (fun hc => ?_)) | (refine cw_cond rfl (fun hc => ?_) (fun hc => ?_)) | (refine cw_block ?_) | (refine cw_exit ?_) | (refine then_exit ?_) | (refine in_exit ?_) | (refine in_exit_ne rfl ?_) | (refine in_normal ?_) | (refine cw_ret ?_) | (refine then_ret ?_) | (refine in_ret ?_) | (refine cw_skip ?_))
            refine rb_all (fuel := 3) (rs := [10]) (by kernel_rfl) (by kernel_rfl) rfl ?_
            rw [List.forall_mem_singleton]
            refine k_alloc (fun g11 w11 hn11 => ⟨fun _ h => h.trans hn11.ex, ?_⟩)
            try have off11 : Off g11 (.agg qs.toArray) := hzq.off_hi hn11.lo
            try have hne10 : g10 ≠ g11 := (by have := hb10.lt; have := hn11.lo; omega)
            have lo11 : w9.heap.size ≤ g11 := Nat.le_trans hEx.size hn11.lo
            have hb11 := hn11.blk
            replace hEx := hEx.trans hn11.ex
            try replace hz3' := hz3'.ext hn11.ex
            try replace hzq := hzq.ext hn11.ex
            try replace hb10 := hb10.ext hn11.ex
            refine rr_nil ?_
            refine rb_all (fuel := 2) (rs := [11]) (by kernel_rfl) (by kernel_rfl) rfl ?_
            rw [List.forall_mem_singleton]
            refine k_storeV (n := 2) rfl rfl hql hqo hb10 (by first | rfl | assumption) (fun w12 hc12 hb10' => ⟨fun _ h => h.chg hc12 (by omega), ?_⟩)
            replace hEx := hEx.chg hc12 (by omega)
            replace hzq := hzq.chgO hc12 off10
            replace hb10 := hb10'
            try replace hb11 := hb11.chg hc12 (Ne.symm hne10)
            refine rr_nil ?_
            refine rb_all (fuel := 1) (rs := [12]) (by kernel_rfl) (by kernel_rfl) rfl ?_
            rw [List.forall_mem_singleton]
            refine k_storeV (n := 2) rfl rfl hrl hro hb11 (by first | rfl | assumption) (fun w13 hc13 hb11' => ⟨fun _ h => h.chg hc13 (by omega), ?_⟩)
            replace hEx := hEx.chg hc13 (by omega)
            replace hzq := hzq.chgO hc13 off11
            replace hb11 := hb11'
            try replace hb10 := hb10.chg hc13 hne10
            refine rr_nil ?_
            refine rb_pre (fuel := 0) (by kernel_rfl) (by kernel_rfl) [13] _ _ (by kernel_rfl) ?_
            repeat' (first | (refine k_loadCA rfl (fun _ h => hb9.ext h) hl9 ?_) | (refine k_loadCA rfl (fun _ h => hb69.ext h) hl6 ?_) | (refine k_extract rfl rfl ?_) | (refine k_pure rfl ?_) | (refine then_normal ?_) | (refine cw_seq ?_) | (refine cw_region rfl ?_) | (refine rr_nil ?_) | (refine k_len rfl ?_) | (refine g_run rfl rfl ?_) | (refine g_skip rfl rfl ?_) | (refine g_dec_f rfl rfl (fun hc => ?_) (fun hc => ?_)) | (refine g_dec_t rfl rfl (fun hc => ?_) (fun hc => ?_)) | (refine g_ndec_f rfl rfl (fun hc => ?_) (fun hc => ?_)) | (refine g_ndec_t rfl rfl (fun hc => ?_) (fun hc => ?_)) | (refine g_split rfl rfl (fun hc => ?_) (fun hc => ?_)) | (refine k_addI rfl rfl (by omega) (by omega) ?_) | (refine k_subI rfl rfl (by omega) (by omega) ?_) | (refine k_fieldAddr rfl ?_) | (refine k_eqlB rfl rfl ?_) | (refine k_neqB rfl rfl ?_) | (refine cw_cond_true rfl ?_) | (refine cw_cond_false rfl ?_) | (refine cw_cond_dec rfl (fun hc => ?_) (fun hc => ?_)) | (refine cw_cond_ndec rfl (fun hc => ?_) (fun hc => ?_)) | (refine cw_cond rfl (fun hc => ?_) (fun hc => ?_)) | (refine cw_block ?_) | (refine cw_exit ?_) | (refine then_exit ?_) | (refine in_exit ?_) | (refine in_exit_ne rfl ?_) | (refine in_normal ?_) | (refine cw_ret ?_) | (refine then_ret ?_) | (refine in_ret ?_) | (refine cw_skip ?_))
            refine rb_done (by kernel_rfl) ?_
            exact then_normal ⟨⟨(g10, qs), ⟨hEx, hb10, hql, hqo, hzq⟩, rfl, trivial⟩, (by (repeat (first | exact agree_refl _ _ | refine agree_upd rfl ?_ | refine agree_updO rfl ?_ | refine agree_overIn rfl ?_ | refine agree_maskIn rfl ?_)))⟩
          · refine k_alloc (fun g11 w11 hn11 => ⟨fun _ h => h.trans hn11.ex, ?_⟩)
            try have off11 : Off g11 (.agg qs.toArray) := hzq.off_hi hn11.lo
            try have hne10 : g10 ≠ g11 := (by have := hb10.lt; have := hn11.lo; omega)
            have lo11 : w9.heap.size ≤ g11 := Nat.le_trans hEx.size hn11.lo
            have hb11 := hn11.blk
            replace hEx := hEx.trans hn11.ex
            try replace hz3' := hz3'.ext hn11.ex
            try replace hzq := hzq.ext hn11.ex
            try replace hb10 := hb10.ext hn11.ex
            refine rr_nil ?_
            refine rb_all (fuel := 7) (rs := [4]) (by kernel_rfl) (by kernel_rfl) rfl ?_
            rw [List.forall_mem_singleton]
            refine k_call (divMod_small (hz9.ext hEx) hz3' (by omega) hdv hdl) rfl ?_
            rintro v4 w4' ⟨q, r, rfl, hzq, hzr, hE4'⟩
            refine ⟨fun _ h => h.trans hE4', ?_⟩
            obtain ⟨qs, rfl, hql, hqo⟩ := hzq.out
            obtain ⟨rs, rfl, hrl, hro⟩ := hzr.out
            try have off10 : Off g10 (.agg qs.toArray) := hzq.off_lo hb10.lt
            try have off11 : Off g11 (.agg qs.toArray) := hzq.off_lo hb11.lt
            replace hzq := hzq.mono (lo' := w2.heap.size) (by have := hEx.size; omega)
            replace hEx := hEx.trans hE4'
            try replace hb10 := hb10.ext hE4'
            try replace hb11 := hb11.ext hE4'
            refine rr_nil ?_
            refine rb_pre (fuel := 3) (by kernel_rfl) (by kernel_rfl) [5, 6, 7, 8] _ _ (by kernel_rfl) ?_
            repeat' (first | (refine k_loadCA rfl (fun _ h => hb9.ext h) hl9 ?_) | (refine k_loadCA rfl (fun _ h => hb69.ext h) hl6 ?_) | (refine k_extract rfl rfl ?_) | (refine k_pure rfl ?_) | (refine then_normal ?_) | (refine cw_seq ?_) | (refine cw_region rfl ?_) | (refine rr_nil ?_) | (refine k_len rfl ?_) | (refine g_run rfl rfl ?_) | (refine g_skip rfl rfl ?_) | (refine g_dec_f rfl rfl (fun hc => ?_) (fun hc => ?_)) | (refine g_dec_t rfl rfl (fun hc => ?_) (fun hc => ?_)) | (refine g_ndec_f rfl rfl (fun hc => ?_) (fun hc => ?_)) | (refine g_ndec_t rfl rfl (fun hc => ?_) (fun hc => ?_)) | (refine g_split rfl rfl (fun hc => ?_) (fun hc => ?_)) | (refine k_addI rfl rfl (by omega) (by omega) ?_) | (refine k_subI rfl rfl (by omega) (by omega) ?_) | (refine k_fieldAddr rfl ?_) | (refine k_eqlB rfl rfl ?_) | (refine k_neqB rfl rfl ?_) | (refine cw_cond_true rfl ?_) | (refine cw_cond_false rfl ?_) | (refine cw_cond_dec rfl (fun hc => ?_) (fun hc => ?_)) | (refine cw_cond_ndec rfl (fun hc => ?_) (fun hc => ?_)) | (refine cw_cond rfl (fun hc => ?_) (fun hc => ?_)) | (refine cw_block ?_) | (refine cw_exit ?_) | (refine then_exit ?_) | (refine in_exit ?_) | (refine in_exit_ne rfl ?_) | (refine in_normal ?_) | (refine cw_ret ?_) | (refine then_ret ?_) | (refine in_ret ?_) | (refine cw_skip ?_))
            refine rb_all (fuel := 2) (rs := [11]) (by kernel_rfl) (by kernel_rfl) rfl ?_
            rw [List.forall_mem_singleton]
            refine k_storeV (n := 2) rfl rfl hql hqo hb10 (by first | rfl | assumption) (fun w12 hc12 hb10' => ⟨fun _ h => h.chg hc12 (by omega), ?_⟩)
            replace hEx := hEx.chg hc12 (by omega)
            replace hzq := hzq.chgO hc12 off10
            replace hb10 := hb10'
            try replace hb11 := hb11.chg hc12 (Ne.symm hne10)
            refine rr_nil ?_
            refine rb_all (fuel := 1) (rs := [12]) (by kernel_rfl) (by kernel_rfl) rfl ?_
            rw [List.forall_mem_singleton]
            refine k_storeV (n := 2) rfl rfl hrl hro hb11 (by first | rfl | assumption) (fun w13 hc13 hb11' => ⟨fun _ h => h.chg hc13 (by omega), ?_⟩)
            replace hEx := hEx.chg hc13 (by omega)
            replace hzq := hzq.chgO hc13 off11
            replace hb11 := hb11'
            try replace hb10 := hb10.chg hc13 hne10
            refine rr_nil ?_
            refine rb_pre (fuel := 0) (by kernel_rfl) (by kernel_rfl) [13] _ _ (by kernel_rfl) ?_
            repeat' (first | (refine k_loadCA rfl (fun _ h => hb9.ext h) hl9 ?_) | (refine k_loadCA rfl (fun _ h => hb69.ext h) hl6 ?_) | (refine k_extract rfl rfl ?_) | (refine k_pure rfl ?_) | (refine then_normal ?_) | (refine cw_seq ?_) | (refine cw_region rfl ?_) | (refine rr_nil ?_) | (refine k_len rfl ?_) | (refine g_run rfl rfl ?_) | (refine g_skip rfl rfl ?_) | (refine g_dec_f rfl rfl (fun hc => ?_) (fun hc => ?_)) | (refine g_dec_t rfl rfl (fun hc => ?_) (fun hc => ?_)) | (refine g_ndec_f rfl rfl (fun hc => ?_) (fun hc => ?_)) | (refine g_ndec_t rfl rfl (fun hc => ?_) (fun hc => ?_)) | (refine g_split rfl rfl (fun hc => ?_) (fun hc => ?_)) | (refine k_addI rfl rfl (by omega) (by omega) ?_) | (refine k_subI rfl rfl (by omega) (by omega) ?_) | (refine k_fieldAddr rfl ?_) | (refine k_eqlB rfl rfl ?_) | (refine k_neqB rfl rfl ?_) | (refine cw_cond_true rfl ?_) | (refine cw_cond_false rfl ?_) | (refine cw_cond_dec rfl (fun hc => ?_) (fun hc => ?_)) | (refine cw_cond_ndec rfl (fun hc => ?_) (fun hc => ?_)) | (refine cw_cond rfl (fun hc => ?_) (fun hc => ?_)) | (refine cw_block ?_) | (refine cw_exit ?_) | (refine then_exit ?_) | (refine in_exit ?_) | (refine in_exit_ne rfl ?_) | (refine in_normal ?_) | (refine cw_ret ?_) | (refine then_ret ?_) | (refine in_ret ?_) | (refine cw_skip ?_))
            refine rb_done (by kernel_rfl) ?_
            exact then_normal ⟨⟨(g10, qs), ⟨hEx, hb10, hql, hqo, hzq⟩, rfl, trivial⟩, (by (repeat (first | exact agree_refl _ _ | refine agree_upd rfl ?_ | refine agree_updO rfl ?_ | refine agree_overIn rfl ?_ | refine agree_maskIn rfl ?_)))⟩
        · refine k_alloc (fun g11 w11 hn11 => ⟨fun _ h => h.trans hn11.ex, ?_⟩)
          try have off11 : Off g11 (.agg qs.toArray) := hzq.off_hi hn11.lo
          try have hne10 : g10 ≠ g11 := (by have := hb10.lt; have := hn11.lo; omega)
          have lo11 : w9.heap.size ≤ g11 := Nat.le_trans hEx.size hn11.lo
          have hb11 := hn11.blk
          replace hEx := hEx.trans hn11.ex
          try replace hz3' := hz3'.ext hn11.ex
          try replace hzq := hzq.ext hn11.ex
          try replace hb10 := hb10.ext hn11.ex
          refine rr_nil ?_
          refine rb_all (fuel := 8) (rs := [3]) (by kernel_rfl) (by kernel_rfl) rfl ?_
          rw [List.forall_mem_singleton]
          refine k_call (gcd_small (hz69.ext hEx) (hz9.ext hEx) (by omega) (by omega)) rfl ?_
          rintro v3 w3' ⟨hz3', hE3'⟩
          refine ⟨fun _ h => h.trans hE3', ?_⟩
          replace hEx := hEx.trans hE3'
          simp only [Int.natAbs_natCast] at hz3'
          try replace hb10 := hb10.ext hE3'
          try replace hb11 := hb11.ext hE3'
          refine rr_nil ?_
          refine rb_all (fuel := 7) (rs := [4]) (by kernel_rfl) (by kernel_rfl) rfl ?_
          rw [List.forall_mem_singleton]
          refine k_call (divMod_small (hz9.ext hEx) hz3' (by omega) hdv hdl) rfl ?_
          rintro v4 w4' ⟨q, r, rfl, hzq, hzr, hE4'⟩
          refine ⟨fun _ h => h.trans hE4', ?_⟩
          obtain ⟨qs, rfl, hql, hqo⟩ := hzq.out
          obtain ⟨rs, rfl, hrl, hro⟩ := hzr.out
          try have off10 : Off g10 (.agg qs.toArray) := hzq.off_lo hb10.lt
          try have off11 : Off g11 (.agg qs.toArray) := hzq.off_lo hb11.lt
          replace hzq := hzq.mono (lo' := w2.heap.size) (by have := hEx.size; omega)
          replace hEx := hEx.trans hE4'
          try replace hb10 := hb10.ext hE4'
          try replace hb11 := hb11.ext hE4'
          refine rr_nil ?_
          refine rb_pre (fuel := 3) (by kernel_rfl) (by kernel_rfl) [5, 6, 7, 8] _ _ (by kernel_rfl) ?_
          repeat' (first | (refine k_loadCA rfl (fun _ h => hb9.ext h) hl9 ?_) | (refine k_loadCA rfl (fun _ h => hb69.ext h) hl6 ?_) | (refine k_extract rfl rfl ?_) | (refine k_pure rfl ?_) | (refine then_normal ?_) | (refine cw_seq ?_) | (refine cw_region rfl ?_) | (refine rr_nil ?_) | (refine k_len rfl ?_) | (refine g_run rfl rfl ?_) | (refine g_skip rfl rfl ?_) | (refine g_dec_f rfl rfl (fun hc => ?_) (fun hc => ?_)) | (refine g_dec_t rfl rfl (fun hc => ?_) (fun hc => ?_)) | (refine g_ndec_f rfl rfl (fun hc => ?_) (fun hc => ?_)) | (refine g_ndec_t rfl rfl (fun hc => ?_) (fun hc => ?_)) | (refine g_split rfl rfl (fun hc => ?_) (fun hc => ?_)) | (refine k_addI rfl rfl (by omega) (by omega) ?_) | (refine k_subI rfl rfl (by omega) (by omega) ?_) | (refine k_fieldAddr rfl ?_) | (refine k_eqlB rfl rfl ?_) | (refine k_neqB rfl rfl ?_) | (refine cw_cond_true rfl ?_) | (refine cw_cond_false rfl ?_) | (refine cw_cond_dec rfl (fun hc => ?_) (fun hc => ?_)) | (refine cw_cond_ndec rfl (fun hc => ?_) (fun hc => ?_)) | (refine cw_cond rfl (fun hc => ?_) (fun hc => ?_)) | (refine cw_block ?_) | (refine cw_exit ?_) | (refine then_exit ?_) | (refine in_exit ?_) | (refine in_exit_ne rfl ?_) | (refine in_normal ?_) | (refine cw_ret ?_) | (refine then_ret ?_) | (refine in_ret ?_) | (refine cw_skip ?_))
          refine rb_all (fuel := 2) (rs := [11]) (by kernel_rfl) (by kernel_rfl) rfl ?_
          rw [List.forall_mem_singleton]
          refine k_storeV (n := 2) rfl rfl hql hqo hb10 (by first | rfl | assumption) (fun w12 hc12 hb10' => ⟨fun _ h => h.chg hc12 (by omega), ?_⟩)
          replace hEx := hEx.chg hc12 (by omega)
          replace hzq := hzq.chgO hc12 off10
          replace hb10 := hb10'
          try replace hb11 := hb11.chg hc12 (Ne.symm hne10)
          refine rr_nil ?_
          refine rb_all (fuel := 1) (rs := [12]) (by kernel_rfl) (by kernel_rfl) rfl ?_
          rw [List.forall_mem_singleton]
          refine k_storeV (n := 2) rfl rfl hrl hro hb11 (by first | rfl | assumption) (fun w13 hc13 hb11' => ⟨fun _ h => h.chg hc13 (by omega), ?_⟩)
          replace hEx := hEx.chg hc13 (by omega)
          replace hzq := hzq.chgO hc13 off11
          replace hb11 := hb11'
          try replace hb10 := hb10.chg hc13 hne10
          refine rr_nil ?_
          refine rb_pre (fuel := 0) (by kernel_rfl) (by kernel_rfl) [13] _ _ (by kernel_rfl) ?_
          repeat' (first | (refine k_loadCA rfl (fun _ h => hb9.ext h) hl9 ?_) | (refine k_loadCA rfl (fun _ h => hb69.ext h) hl6 ?_) | (refine k_extract rfl rfl ?_) | (refine k_pure rfl ?_) | (refine then_normal ?_) | (refine cw_seq ?_) | (refine cw_region rfl ?_) | (refine rr_nil ?_) | (refine k_len rfl ?_) | (refine g_run rfl rfl ?_) | (refine g_skip rfl rfl ?_) | (refine g_dec_f rfl rfl (fun hc => ?_) (fun hc => ?_)) | (refine g_dec_t rfl rfl (fun hc => ?_) (fun hc => ?_)) | (refine g_ndec_f rfl rfl (fun hc => ?_) (fun hc => ?_)) | (refine g_ndec_t rfl rfl (fun hc => ?_) (fun hc => ?_)) | (refine g_split rfl rfl (fun hc => ?_) (fun hc => ?_)) | (refine k_addI rfl rfl (by omega) (by omega) ?_) | (refine k_subI rfl rfl (by omega) (by omega) ?_) | (refine k_fieldAddr rfl ?_) | (refine k_eqlB rfl rfl ?_) | (refine k_neqB rfl rfl ?_) | (refine cw_cond_true rfl ?_) | (refine cw_cond_false rfl ?_) | (refine cw_cond_dec rfl (fun hc => ?_) (fun hc => ?_)) | (refine cw_cond_ndec rfl (fun hc => ?_) (fun hc => ?_)) | (refine cw_cond rfl (fun hc => ?_) (fun hc => ?_)) | (refine cw_block ?_) | (refine cw_exit ?_) | (refine then_exit ?_) | (refine in_exit ?_) | (refine in_exit_ne rfl ?_) | (refine in_normal ?_) | (refine cw_ret ?_) | (refine then_ret ?_) | (refine in_ret ?_) | (refine cw_skip ?_))
          refine rb_done (by kernel_rfl) ?_
          exact then_normal ⟨⟨(g10, qs), ⟨hEx, hb10, hql, hqo, hzq⟩, rfl, trivial⟩, (by (repeat (first | exact agree_refl _ _ | refine agree_upd rfl ?_ | refine agree_updO rfl ?_ | refine agree_overIn rfl ?_ | refine agree_maskIn rfl ?_)))⟩
      · refine k_alloc (fun g11 w11 hn11 => ⟨fun _ h => h.trans hn11.ex, ?_⟩)
        try have off11 : Off g11 (.agg qs.toArray) := hzq.off_hi hn11.lo
        try have hne10 : g10 ≠ g11 := (by have := hb10.lt; have := hn11.lo; omega)
        have lo11 : w9.heap.size ≤ g11 := Nat.le_trans hEx.size hn11.lo
        have hb11 := hn11.blk
        replace hEx := hEx.trans hn11.ex
        try replace hz3' := hz3'.ext hn11.ex
        try replace hzq := hzq.ext hn11.ex
        try replace hb10 := hb10.ext hn11.ex
        refine rr_nil ?_
        refine rb_all (fuel := 9) (rs := [3, 9]) (by kernel_rfl) (by kernel_rfl) rfl ?_
        simp only [List.forall_mem_cons, List.not_mem_nil, false_implies, implies_true, and_true]
        refine ⟨?_, ?_⟩
        · refine k_call (gcd_small (hz69.ext hEx) (hz9.ext hEx) (by omega) (by omega)) rfl ?_
          rintro v3 w3' ⟨hz3', hE3'⟩
          refine ⟨fun _ h => h.trans hE3', ?_⟩
          replace hEx := hEx.trans hE3'
          simp only [Int.natAbs_natCast] at hz3'
          try replace hb10 := hb10.ext hE3'
          try replace hb11 := hb11.ext hE3'
          refine rr_nil ?_
          refine rb_all (fuel := 8) (rs := [4, 9]) (by kernel_rfl) (by kernel_rfl) rfl ?_
          simp only [List.forall_mem_cons, List.not_mem_nil, false_implies, implies_true, and_true]
          refine ⟨?_, ?_⟩
          · refine k_call (divMod_small (hz9.ext hEx) hz3' (by omega) hdv hdl) rfl ?_
            rintro v4 w4' ⟨q, r, rfl, hzq, hzr, hE4'⟩
            refine ⟨fun _ h => h.trans hE4', ?_⟩
            obtain ⟨qs, rfl, hql, hqo⟩ := hzq.out
            obtain ⟨rs, rfl, hrl, hro⟩ := hzr.out
            try have off10 : Off g10 (.agg qs.toArray) := hzq.off_lo hb10.lt
            try have off11 : Off g11 (.agg qs.toArray) := hzq.off_lo hb11.lt
            replace hzq := hzq.mono (lo' := w2.heap.size) (by have := hEx.size; omega)
            replace hEx := hEx.trans hE4'
            try replace hb10 := hb10.ext hE4'
            try replace hb11 := hb11.ext hE4'
            refine rr_nil ?_
            refine rb_pre (fuel := 4) (by kernel_rfl) (by kernel_rfl) [5, 6, 7, 8] _ _ (by kernel_rfl) ?_
            repeat' (first | (refine k_loadCA rfl (fun _ h => hb9.ext h) hl9 ?_) | (refine k_loadCA rfl (fun _ h => hb69.ext h) hl6 ?_) | (refine k_extract rfl rfl ?_) | (refine k_pure rfl ?_) | (refine then_normal ?_) | (refine cw_seq ?_) | (refine cw_region rfl ?_) | (refine rr_nil ?_) | (refine k_len rfl ?_) | (refine g_run rfl rfl ?_) | (refine g_skip rfl rfl ?_) | (refine g_dec_f rfl rfl (fun hc => ?_) (fun hc => ?_)) | (refine g_dec_t rfl rfl (fun hc => ?_) (fun hc => ?_)) | (refine g_ndec_f rfl rfl (fun hc => ?_) (fun hc => ?_)) | (refine g_ndec_t rfl rfl (fun hc => ?_) (fun hc => ?_)) | (refine g_split rfl rfl (fun hc => ?_) (fun hc => ?_)) | (refine k_addI rfl rfl (by omega) (by omega) ?_) | (refine k_subI rfl rfl (by omega) (by omega) ?_) | (refine k_fieldAddr rfl ?_) | (refine k_eqlB rfl rfl ?_) | (refine k_neqB rfl rfl ?_) | (refine cw_cond_true rfl ?_) | (refine cw_cond_false rfl ?_) | (refine cw_cond_dec rfl (fun hc => ?_) (fun hc => ?_)) | (refine cw_cond_ndec rfl (fun hc => ?_) (fun hc => ?_)) | (refine cw_cond rfl (fun hc => ?_) (fun hc => ?_)) | (refine cw_block ?_) | (refine cw_exit ?_) | (refine then_exit ?_) | (refine in_exit ?_) | (refine in_exit_ne rfl ?_) | (refine in_normal ?_) | (refine cw_ret ?_) | (refine then_ret ?_) | (refine in_ret ?_) | (refine cw_skip ?_))
            refine rb_all (fuel := 3) (rs := [9]) (by kernel_rfl) (by kernel_rfl) rfl ?_
            rw [List.forall_mem_singleton]
            refine k_alloc (fun g10 w10 hn10 => ⟨fun _ h => h.trans hn10.ex, ?_⟩)
            try have off10 : Off g10 (.agg qs.toArray) := hzq.off_hi hn10.lo
            try have hne10 : g10 ≠ g11 := (by have := hb11.lt; have := hn10.lo; omega)
            have lo10 : w9.heap.size ≤ g10 := Nat.le_trans hEx.size hn10.lo
            have hb10 := hn10.blk
            replace hEx := hEx.trans hn10.ex
            try replace hz3' := hz3'.ext hn10.ex
            try replace hzq := hzq.ext hn10.ex
            try replace hb11 := hb11.ext hn10.ex
            refine rr_nil ?_
            refine rb_all (fuel := 2) (rs := [11]) (by kernel_rfl) (by kernel_rfl) rfl ?_
            rw [List.forall_mem_singleton]
            refine k_storeV (n := 2) rfl rfl hql hqo hb10 (by first | rfl | assumption) (fun w12 hc12 hb10' => ⟨fun _ h => h.chg hc12 (by omega), ?_⟩)
            replace hEx := hEx.chg hc12 (by omega)
            replace hzq := hzq.chgO hc12 off10
            replace hb10 := hb10'
            try replace hb11 := hb11.chg hc12 (Ne.symm hne10)
            refine rr_nil ?_
            refine rb_all (fuel := 1) (rs := [12]) (by kernel_rfl) (by kernel_rfl) rfl ?_
            rw [List.forall_mem_singleton]
            refine k_storeV (n := 2) rfl rfl hrl hro hb11 (by first | rfl | assumption) (fun w13 hc13 hb11' => ⟨fun _ h => h.chg hc13 (by omega), ?_⟩)
            replace hEx := hEx.chg hc13 (by omega)
            replace hzq := hzq.chgO hc13 off11
            replace hb11 := hb11'
            try replace hb10 := hb10.chg hc13 hne10
            refine rr_nil ?_
            refine rb_pre (fuel := 0) (by kernel_rfl) (by kernel_rfl) [13] _ _ (by kernel_rfl) ?_
            repeat' (first | (refine k_loadCA rfl (fun _ h => hb9.ext h) hl9 ?_) | (refine k_loadCA rfl (fun _ h => hb69.ext h) hl6 ?_) | (refine k_extract rfl rfl ?_) | (refine k_pure rfl ?_) | (refine then_normal ?_) | (refine cw_seq ?_) | (refine cw_region rfl ?_) | (refine rr_nil ?_) | (refine k_len rfl ?_) | (refine g_run rfl rfl ?_) | (refine g_skip rfl rfl ?_) | (refine g_dec_f rfl rfl (fun hc => ?_) (fun hc => ?_)) | (refine g_dec_t rfl rfl (fun hc => ?_) (fun hc => ?_)) | (refine g_ndec_f rfl rfl (fun hc => ?_) (fun hc => ?_)) | (refine g_ndec_t rfl rfl (fun hc => ?_) (fun hc => ?_)) | (refine g_split rfl rfl (fun hc => ?_) (fun hc => ?_)) | (refine k_addI rfl rfl (by omega) (by omega) ?_) | (refine k_subI rfl rfl (by omega) (by omega) ?_) | (refine k_fieldAddr rfl ?_) | (refine k_eqlB rfl rfl ?_) | (refine k_neqB rfl rfl ?_) | (refine cw_cond_true rfl ?_) | (refine cw_cond_false rfl ?_) | (refine cw_cond_dec rfl (fun hc => ?_) (fun hc => ?_)) | (refine cw_cond_ndec rfl (fun hc => ?_) (fun hc => ?_)) | (refine cw_cond rfl (fun hc => ?_) (fun hc => ?_)) | (refine cw_block ?_) | (refine cw_exit ?_) | (refine then_exit ?_) | (refine in_exit ?_) | (refine in_exit_ne rfl ?_) | (refine in_normal ?_) | (refine cw_ret ?_) | (refine then_ret ?_) | (refine in_ret ?_) | (refine cw_skip ?_))
            refine rb_done (by kernel_rfl) ?_
            exact then_normal ⟨⟨(g10, qs), ⟨hEx, hb10, hql, hqo, hzq⟩, rfl, trivial⟩, (by (repeat (first | exact agree_refl _ _ | refine agree_upd rfl ?_ | refine agree_updO rfl ?_ | refine agree_overIn rfl ?_ | refine agree_maskIn rfl ?_)))⟩
          · refine k_alloc (fun g10 w10 hn10 => ⟨fun _ h => h.trans hn10.ex, ?_⟩)
            try have off10 : Off g10 (.agg qs.toArray) := hzq.off_hi hn10.lo
            try have hne10 : g10 ≠ g11 := (by have := hb11.lt; have := hn10.lo; omega)
            have lo10 : w9.heap.size ≤ g10 := Nat.le_trans hEx.size hn10.lo
            have hb10 := hn10.blk
            replace hEx := hEx.trans hn10.ex
            try replace hz3' := hz3'.ext hn10.ex
            try replace hzq := hzq.ext hn10.ex
            try replace hb11 := hb11.ext hn10.ex
            refine rr_nil ?_
            refine rb_all (fuel := 7) (rs := [4]) (by kernel_rfl) (by kernel_rfl) rfl ?_
            rw [List.forall_mem_singleton]
            refine k_call (divMod_small (hz9.ext hEx) hz3' (by omega) hdv hdl) rfl ?_
            rintro v4 w4' ⟨q, r, rfl, hzq, hzr, hE4'⟩
            refine ⟨fun _ h => h.trans hE4', ?_⟩
            obtain ⟨qs, rfl, hql, hqo⟩ := hzq.out
            obtain ⟨rs, rfl, hrl, hro⟩ := hzr.out
            try have off10 : Off g10 (.agg qs.toArray) := hzq.off_lo hb10.lt
            try have off11 : Off g11 (.agg qs.toArray) := hzq.off_lo hb11.lt
            replace hzq := hzq.mono (lo' := w2.heap.size) (by have := hEx.size; omega)
            replace hEx := hEx.trans hE4'
            try replace hb10 := hb10.ext hE4'
            try replace hb11 := hb11.ext hE4'
            refine rr_nil ?_
            refine rb_pre (fuel := 3) (by kernel_rfl) (by kernel_rfl) [5, 6, 7, 8] _ _ (by kernel_rfl) ?_
            repeat' (first | (refine k_loadCA rfl (fun _ h => hb9.ext h) hl9 ?_) | (refine k_loadCA rfl (fun _ h => hb69.ext h) hl6 ?_) | (refine k_extract rfl rfl ?_) | (refine k_pure rfl ?_) | (refine then_normal ?_) | (refine cw_seq ?_) | (refine cw_region rfl ?_) | (refine rr_nil ?_) | (refine k_len rfl ?_) | (refine g_run rfl rfl ?_) | (refine g_skip rfl rfl ?_) | (refine g_dec_f rfl rfl (fun hc => ?_) (fun hc => ?_)) | (refine g_dec_t rfl rfl (fun hc => ?_) (fun hc => ?_)) | (refine g_ndec_f rfl rfl (fun hc => ?_) (fun hc => ?_)) | (refine g_ndec_t rfl rfl (fun hc => ?_) (fun hc => ?_)) | (refine g_split rfl rfl (fun hc => ?_) (fun hc => ?_)) | (refine k_addI rfl rfl (by omega) (by omega) ?_) | (refine k_subI rfl rfl (by omega) (by omega) ?_) | (refine k_fieldAddr rfl ?_) | (refine k_eqlB rfl rfl ?_) | (refine k_neqB rfl rfl ?_) | (refine cw_cond_true rfl ?_) | (refine cw_cond_false rfl ?_) | (refine cw_cond_dec rfl (fun hc => ?_) (fun hc => ?_)) | (refine cw_cond_ndec rfl (fun hc => ?_) (fun hc => ?_)) | (refine cw_cond rfl (fun hc => ?_) (fun hc => ?_)) | (refine cw_block ?_) | (refine cw_exit ?_) | (refine then_exit ?_) | (refine in_exit ?_) | (refine in_exit_ne rfl ?_) | (refine in_normal ?_) | (refine cw_ret ?_) | (refine then_ret ?_) | (refine in_ret ?_) | (refine cw_skip ?_))
            refine rb_all (fuel := 2) (rs := [11]) (by kernel_rfl) (by kernel_rfl) rfl ?_
            rw [List.forall_mem_singleton]
            refine k_storeV (n := 2) rfl rfl hql hqo hb10 (by first | rfl | assumption) (fun w12 hc12 hb10' => ⟨fun _ h => h.chg hc12 (by omega), ?_⟩)
            replace hEx := hEx.chg hc12 (by omega)
            replace hzq := hzq.chgO hc12 off10
            replace hb10 := hb10'
            try replace hb11 := hb11.chg hc12 (Ne.symm hne10)
            refine rr_nil ?_
            refine rb_all (fuel := 1) (rs := [12]) (by kernel_rfl) (by kernel_rfl) rfl ?_
            rw [List.forall_mem_singleton]
            refine k_storeV (n := 2) rfl rfl hrl hro hb11 (by first | rfl | assumption) (fun w13 hc13 hb11' => ⟨fun _ h => h.chg hc13 (by omega), ?_⟩)
            replace hEx := hEx.chg hc13 (by omega)
            replace hzq := hzq.chgO hc13 off11
            replace hb11 := hb11'
            try replace hb10 := hb10.chg hc13 hne10
            refine rr_nil ?_
            refine rb_pre (fuel := 0) (by kernel_rfl) (by kernel_rfl) [13] _ _ (by kernel_rfl) ?_
            repeat' (first | (refine k_loadCA rfl (fun _ h => hb9.ext h) hl9 ?_) | (refine k_loadCA rfl (fun _ h => hb69.ext h) hl6 ?_) | (refine k_extract rfl rfl ?_) | (refine k_pure rfl ?_) | (refine then_normal ?_) | (refine cw_seq ?_) | (refine cw_region rfl ?_) | (refine rr_nil ?_) | (refine k_len rfl ?_) | (refine g_run rfl rfl ?_) | (refine g_skip rfl rfl ?_) | (refine g_dec_f rfl rfl (fun hc => ?_) (fun hc => ?_)) | (refine g_dec_t rfl rfl (fun hc => ?_) (fun hc => ?_)) | (refine g_ndec_f rfl rfl (fun hc => ?_) (fun hc => ?_)) | (refine g_ndec_t rfl rfl (fun hc => ?_) (fun hc => ?_)) | (refine g_split rfl rfl (fun hc => ?_) (fun hc => ?_)) | (refine k_addI rfl rfl (by omega) (by omega) ?_) | (refine k_subI rfl rfl (by omega) (by omega) ?_) | (refine k_fieldAddr rfl ?_) | (refine k_eqlB rfl rfl ?_) | (refine k_neqB rfl rfl ?_) | (refine cw_cond_true rfl ?_) | (refine cw_cond_false rfl ?_) | (refine cw_cond_dec rfl (fun hc => ?_) (fun hc => ?_)) | (refine cw_cond_ndec rfl (fun hc => ?_) (fun hc => ?_)) | (refine cw_cond rfl (fun hc => ?_) (fun hc => ?_)) | (refine cw_block ?_) | (refine cw_exit ?_) | (refine then_exit ?_) | (refine in_exit ?_) | (refine in_exit_ne rfl ?_) | (refine in_normal ?_) | (refine cw_ret ?_) | (refine then_ret ?_) | (refine in_ret ?_) | (refine cw_skip ?_))
            refine rb_done (by kernel_rfl) ?_
            exact then_normal ⟨⟨(g10, qs), ⟨hEx, hb10, hql, hqo, hzq⟩, rfl, trivial⟩, (by (repeat (first | exact agree_refl _ _ | refine agree_upd rfl ?_ | refine agree_updO rfl ?_ | refine agree_overIn rfl ?_ | refine agree_maskIn rfl ?_)))⟩
        · refine k_alloc (fun g10 w10 hn10 => ⟨fun _ h => h.trans hn10.ex, ?_⟩)
          try have off10 : Off g10 (.agg qs.toArray) := hzq.off_hi hn10.lo
          try have hne10 : g10 ≠ g11 := (by have := hb11.lt; have := hn10.lo; omega)
          have lo10 : w9.heap.size ≤ g10 := Nat.le_trans hEx.size hn10.lo
          have hb10 := hn10.blk
          replace hEx := hEx.trans hn10.ex
          try replace hz3' := hz3'.ext hn10.ex
          try replace hzq := hzq.ext hn10.ex
          try replace hb11 := hb11.ext hn10.ex
          refine rr_nil ?_
          refine rb_all (fuel := 8) (rs := [3]) (by kernel_rfl) (by kernel_rfl) rfl ?_
          rw [List.forall_mem_singleton]
          refine k_call (gcd_small (hz69.ext hEx) (hz9.ext hEx) (by omega) (by omega)) rfl ?_
          rintro v3 w3' ⟨hz3', hE3'⟩
          refine ⟨fun _ h => h.trans hE3', ?_⟩
          replace hEx := hEx.trans hE3'
          simp only [Int.natAbs_natCast] at hz3'
          try replace hb10 := hb10.ext hE3'
          try replace hb11 := hb11.ext hE3'
          refine rr_nil ?_
          refine rb_all (fuel := 7) (rs := [4]) (by kernel_rfl) (by kernel_rfl) rfl ?_
          rw [List.forall_mem_singleton]
          refine k_call (divMod_small (hz9.ext hEx) hz3' (by omega) hdv hdl) rfl ?_
          rintro v4 w4' ⟨q, r, rfl, hzq, hzr, hE4'⟩
          refine ⟨fun _ h => h.trans hE4', ?_⟩
          obtain ⟨qs, rfl, hql, hqo⟩ := hzq.out
          obtain ⟨rs, rfl, hrl, hro⟩ := hzr.out
          try have off10 : Off g10 (.agg qs.toArray) := hzq.off_lo hb10.lt
          try have off11 : Off g11 (.agg qs.toArray) := hzq.off_lo hb11.lt
          replace hzq := hzq.mono (lo' := w2.heap.size) (by have := hEx.size; omega)
          replace hEx := hEx.trans hE4'
          try replace hb10 := hb10.ext hE4'
          try replace hb11 := hb11.ext hE4'
          refine rr_nil ?_
          refine rb_pre (fuel := 3) (by kernel_rfl) (by kernel_rfl) [5, 6, 7, 8] _ _ (by kernel_rfl) ?_
          repeat' (first | (refine k_loadCA rfl (fun _ h => hb9.ext h) hl9 ?_) | (refine k_loadCA rfl (fun _ h => hb69.ext h) hl6 ?_) | (refine k_extract rfl rfl ?_) | (refine k_pure rfl ?_) | (refine then_normal ?_) | (refine cw_seq ?_) | (refine cw_region rfl ?_) | (refine rr_nil ?_) | (refine k_len rfl ?_) | (refine g_run rfl rfl ?_) | (refine g_skip rfl rfl ?_) | (refine g_dec_f rfl rfl (fun hc => ?_) (fun hc => ?_)) | (refine g_dec_t rfl rfl (fun hc => ?_) (fun hc => ?_)) | (refine g_ndec_f rfl rfl (fun hc => ?_) (fun hc => ?_)) | (refine g_ndec_t rfl rfl (fun hc => ?_) (fun hc => ?_)) | (refine g_split rfl rfl (fun hc => ?_) (fun hc => ?_)) | (refine k_addI rfl rfl (by omega) (by omega) ?_) | (refine k_subI rfl rfl (by omega) (by omega) ?_) | (refine k_fieldAddr rfl ?_) | (refine k_eqlB rfl rfl ?_) | (refine k_neqB rfl rfl ?_) | (refine cw_cond_true rfl ?_) | (refine cw_cond_false rfl ?_) | (refine cw_cond_dec rfl (fun hc => ?_) (fun hc => ?_)) | (refine cw_cond_ndec rfl (fun hc => ?_) (fun hc => ?_)) | (refine cw_cond rfl (fun hc => ?_) (fun hc => ?_)) | (refine cw_block ?_) | (refine cw_exit ?_) | (refine then_exit ?_) | (refine in_exit ?_) | (refine in_exit_ne rfl ?_) | (refine in_normal ?_) | (refine cw_ret ?_) | (refine then_ret ?_) | (refine in_ret ?_) | (refine cw_skip ?_))
          refine rb_all (fuel := 2) (rs := [11]) (by kernel_rfl) (by kernel_rfl) rfl ?_
          rw [List.forall_mem_singleton]
          refine k_storeV (n := 2) rfl rfl hql hqo hb10 (by first | rfl | assumption) (fun w12 hc12 hb10' => ⟨fun _ h => h.chg hc12 (by omega), ?_⟩)
          replace hEx := hEx.chg hc12 (by omega)
          replace hzq := hzq.chgO hc12 off10
          replace hb10 := hb10'
          try replace hb11 := hb11.chg hc12 (Ne.symm hne10)
          refine rr_nil ?_
          refine rb_all (fuel := 1) (rs := [12]) (by kernel_rfl) (by kernel_rfl) rfl ?_
          rw [List.forall_mem_singleton]
          refine k_storeV (n := 2) rfl rfl hrl hro hb11 (by first | rfl | assumption) (fun w13 hc13 hb11' => ⟨fun _ h => h.chg hc13 (by omega), ?_⟩)
          replace hEx := hEx.chg hc13 (by omega)
          replace hzq := hzq.chgO hc13 off11
          replace hb11 := hb11'
          try replace hb10 := hb10.chg hc13 hne10
          refine rr_nil ?_
          refine rb_pre (fuel := 0) (by kernel_rfl) (by kernel_rfl) [13] _ _ (by kernel_rfl) ?_
          repeat' (first | (refine k_loadCA rfl (fun _ h => hb9.ext h) hl9 ?_) | (refine k_loadCA rfl (fun _ h => hb69.ext h) hl6 ?_) | (refine k_extract rfl rfl ?_) | (refine k_pure rfl ?_) | (refine then_normal ?_) | (refine cw_seq ?_) | (refine cw_region rfl ?_) | (refine rr_nil ?_) | (refine k_len rfl ?_) | (refine g_run rfl rfl ?_) | (refine g_skip rfl rfl ?_) | (refine g_dec_f rfl rfl (fun hc => ?_) (fun hc => ?_)) | (refine g_dec_t rfl rfl (fun hc => ?_) (fun hc => ?_)) | (refine g_ndec_f rfl rfl (fun hc => ?_) (fun hc => ?_)) | (refine g_ndec_t rfl rfl (fun hc => ?_) (fun hc => ?_)) | (refine g_split rfl rfl (fun hc => ?_) (fun hc => ?_)) | (refine k_addI rfl rfl (by omega) (by omega) ?_) | (refine k_subI rfl rfl (by omega) (by omega) ?_) | (refine k_fieldAddr rfl ?_) | (refine k_eqlB rfl rfl ?_) | (refine k_neqB rfl rfl ?_) | (refine cw_cond_true rfl ?_) | (refine cw_cond_false rfl ?_) | (refine cw_cond_dec rfl (fun hc => ?_) (fun hc => ?_)) | (refine cw_cond_ndec rfl (fun hc => ?_) (fun hc => ?_)) | (refine cw_cond rfl (fun hc => ?_) (fun hc => ?_)) | (refine cw_block ?_) | (refine cw_exit ?_) | (refine then_exit ?_) | (refine in_exit ?_) | (refine in_exit_ne rfl ?_) | (refine in_normal ?_) | (refine cw_ret ?_) | (refine then_ret ?_) | (refine in_ret ?_) | (refine cw_skip ?_))
          refine rb_done (by kernel_rfl) ?_
          exact then_normal ⟨⟨(g10, qs), ⟨hEx, hb10, hql, hqo, hzq⟩, rfl, trivial⟩, (by (repeat (first | exact agree_refl _ _ | refine agree_upd rfl ?_ | refine agree_updO rfl ?_ | refine agree_overIn rfl ?_ | refine agree_maskIn rfl ?_)))⟩
      rintro ⟨g10, qs⟩ ξ2 w10 ⟨hE10, hb10, hql, hqo, hzq⟩
      simp only at hb10 hql hqo hzq
      have hb610 := hb69.ext hE10
      show CW _ _ _ _ (over [(10, .pointer (some ⟨g10, 0, none⟩))] _) w10
      repeat' (first | (refine k_loadCA rfl hb610 hl6 ?_) | (refine k_loadCA rfl hb10 hql ?_) | (refine k_pure rfl ?_) | (refine then_normal ?_) | (refine cw_seq ?_) | (refine cw_region rfl ?_) | (refine rr_nil ?_) | (refine k_len rfl ?_) | (refine g_run rfl rfl ?_) | (refine g_skip rfl rfl ?_) | (refine g_dec_f rfl rfl (fun hc => ?_) (fun hc => ?_)) | (refine g_dec_t rfl rfl (fun hc => ?_) (fun hc => ?_)) | (refine g_ndec_f rfl rfl (fun hc => ?_) (fun hc => ?_)) | (refine g_ndec_t rfl rfl (fun hc => ?_) (fun hc => ?_)) | (refine g_split rfl rfl (fun hc => ?_) (fun hc => ?_)) | (refine k_addI rfl rfl (by omega) (by omega) ?_) | (refine k_subI rfl rfl (by omega) (by omega) ?_) | (refine k_fieldAddr rfl ?_) | (refine k_eqlB rfl rfl ?_) | (refine k_neqB rfl rfl ?_) | (refine cw_cond_true rfl ?_) | (refine cw_cond_false rfl ?_) | (refine cw_cond_dec rfl (fun hc => ?_) (fun hc => ?_)) | (refine cw_cond_ndec rfl (fun hc => ?_) (fun hc => ?_)) | (refine cw_cond rfl (fun hc => ?_) (fun hc => ?_)) | (refine cw_block ?_) | (refine cw_exit ?_) | (refine then_exit ?_) | (refine in_exit ?_) | (refine in_exit_ne rfl ?_) | (refine in_normal ?_) | (refine cw_ret ?_) | (refine then_ret ?_) | (refine in_ret ?_) | (refine cw_skip ?_))
      have hqb : len / Nat.gcd od len < 18446744073709551616 := Nat.lt_of_le_of_lt (Nat.div_le_self _ _) (by omega)
      refine k_call (mul_spec (k := 2) (l := 2) (hz69.ext hE10) hzq (by simp only [Int.natAbs_natCast]; omega) (by simp only [Int.natAbs_natCast]; omega) (by omega)) rfl ?_
      rintro v w11 ⟨hz11, hE11⟩
      refine ⟨fun _ _ => trivial, ?_⟩
      obtain ⟨ps, rfl, hpl, hpo⟩ := hz11.out
      have m7 := hE10.size
      refine k_storeV (n := 2) rfl rfl hpl hpo (hb610.ext hE11) hl6 (fun w12 hc12 hb12 => ⟨fun _ _ => trivial, ?_⟩)
      have hoff : Off g6 (.agg ps.toArray) := hz11.off_lo (by omega)
      repeat' (first | (refine k_pure rfl ?_) | (refine then_normal ?_) | (refine cw_seq ?_) | (refine cw_region rfl ?_) | (refine rr_nil ?_) | (refine k_len rfl ?_) | (refine g_run rfl rfl ?_) | (refine g_skip rfl rfl ?_) | (refine g_dec_f rfl rfl (fun hc => ?_) (fun hc => ?_)) | (refine g_dec_t rfl rfl (fun hc => ?_) (fun hc => ?_)) | (refine g_ndec_f rfl rfl (fun hc => ?_) (fun hc => ?_)) | (refine g_ndec_t rfl rfl (fun hc => ?_) (fun hc => ?_)) | (refine g_split rfl rfl (fun hc => ?_) (fun hc => ?_)) | (refine k_addI rfl rfl (by omega) (by omega) ?_) | (refine k_subI rfl rfl (by omega) (by omega) ?_) | (refine k_fieldAddr rfl ?_) | (refine k_eqlB rfl rfl ?_) | (refine k_neqB rfl rfl ?_) | (refine cw_cond_true rfl ?_) | (refine cw_cond_false rfl ?_) | (refine cw_cond_dec rfl (fun hc => ?_) (fun hc => ?_)) | (refine cw_cond_ndec rfl (fun hc => ?_) (fun hc => ?_)) | (refine cw_cond rfl (fun hc => ?_) (fun hc => ?_)) | (refine cw_block ?_) | (refine cw_exit ?_) | (refine then_exit ?_) | (refine in_exit ?_) | (refine in_exit_ne rfl ?_) | (refine in_normal ?_) | (refine cw_ret ?_) | (refine then_ret ?_) | (refine in_ret ?_) | (refine cw_skip ?_))
      refine ⟨⟨(k + 1, ps), ⟨by simp only; omega, ((hE9.trans hE10).trans hE11).chg hc12 (by omega), hb12, hpl, hpo, ?_, hoff⟩, by simp only; omega, rfl, trivial⟩, (by (repeat (first | exact agree_mask _ _ _ | refine agree_upd rfl ?_ | refine agree_updO rfl ?_ | refine agree_overIn rfl ?_ | refine agree_maskIn rfl ?_)))⟩
      simp only
      rw [ordTo, hod, hln, Int.natCast_mul]
      exact (hz11.chgO hc12 hoff).mono (by omega)
    · have hkl : k = sds.length := by omega
      repeat' (first | (refine k_loadCA rfl hb6 hl6 ?_) | (refine k_pure rfl ?_) | (refine then_normal ?_) | (refine cw_seq ?_) | (refine cw_region rfl ?_) | (refine rr_nil ?_) | (refine k_len rfl ?_) | (refine g_run rfl rfl ?_) | (refine g_skip rfl rfl ?_) | (refine g_dec_f rfl rfl (fun hc => ?_) (fun hc => ?_)) | (refine g_dec_t rfl rfl (fun hc => ?_) (fun hc => ?_)) | (refine g_ndec_f rfl rfl (fun hc => ?_) (fun hc => ?_)) | (refine g_ndec_t rfl rfl (fun hc => ?_) (fun hc => ?_)) | (refine g_split rfl rfl (fun hc => ?_) (fun hc => ?_)) | (refine k_addI rfl rfl (by omega) (by omega) ?_) | (refine k_subI rfl rfl (by omega) (by omega) ?_) | (refine k_fieldAddr rfl ?_) | (refine k_eqlB rfl rfl ?_) | (refine k_neqB rfl rfl ?_) | (refine cw_cond_true rfl ?_) | (refine cw_cond_false rfl ?_) | (refine cw_cond_dec rfl (fun hc => ?_) (fun hc => ?_)) | (refine cw_cond_ndec rfl (fun hc => ?_) (fun hc => ?_)) | (refine cw_cond rfl (fun hc => ?_) (fun hc => ?_)) | (refine cw_block ?_) | (refine cw_exit ?_) | (refine then_exit ?_) | (refine in_exit ?_) | (refine in_exit_ne rfl ?_) | (refine in_normal ?_) | (refine cw_ret ?_) | (refine then_ret ?_) | (refine in_ret ?_) | (refine cw_skip ?_))
      have hb26 := hb2.ext hE6
      refine k_storeV (n := 2) rfl rfl hl6 ho6 hb26 rfl (fun w7 hc7 hb7 => ⟨fun _ _ => trivial, ?_⟩)
      repeat' (first | (refine k_pure rfl ?_) | (refine then_normal ?_) | (refine cw_seq ?_) | (refine cw_region rfl ?_) | (refine rr_nil ?_) | (refine k_len rfl ?_) | (refine g_run rfl rfl ?_) | (refine g_skip rfl rfl ?_) | (refine g_dec_f rfl rfl (fun hc => ?_) (fun hc => ?_)) | (refine g_dec_t rfl rfl (fun hc => ?_) (fun hc => ?_)) | (refine g_ndec_f rfl rfl (fun hc => ?_) (fun hc => ?_)) | (refine g_ndec_t rfl rfl (fun hc => ?_) (fun hc => ?_)) | (refine g_split rfl rfl (fun hc => ?_) (fun hc => ?_)) | (refine k_addI rfl rfl (by omega) (by omega) ?_) | (refine k_subI rfl rfl (by omega) (by omega) ?_) | (refine k_fieldAddr rfl ?_) | (refine k_eqlB rfl rfl ?_) | (refine k_neqB rfl rfl ?_) | (refine cw_cond_true rfl ?_) | (refine cw_cond_false rfl ?_) | (refine cw_cond_dec rfl (fun hc => ?_) (fun hc => ?_)) | (refine cw_cond_ndec rfl (fun hc => ?_) (fun hc => ?_)) | (refine cw_cond rfl (fun hc => ?_) (fun hc => ?_)) | (refine cw_block ?_) | (refine cw_exit ?_) | (refine then_exit ?_) | (refine in_exit ?_) | (refine in_exit_ne rfl ?_) | (refine in_normal ?_) | (refine cw_ret ?_) | (refine then_ret ?_) | (refine in_ret ?_) | (refine cw_skip ?_))
      refine ret2 rfl (rc rfl hl6 hb7) (rt rfl) ?_
      rw [if_pos hP, decide_eq_true hP]
      refine ⟨_, rfl, ?_, ((hn1.ex.trans hE2).trans hE6).chg hc7 (by omega)⟩
      have : orderF xs = ordTo (cyclesF xs) k := by rw [orderF, hkl, hlen]
      rw [this]
      exact (hz6.chgO hc7 (fun e => by have := (hz6.lo e).1; omega)).mono (by omega)
end Go.Proofs.Ytmedmmginnfjgaa
