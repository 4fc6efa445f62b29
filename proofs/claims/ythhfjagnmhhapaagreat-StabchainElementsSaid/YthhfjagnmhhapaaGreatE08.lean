
import Derived.Test.YthhfjagnmhhapaaGreatE01
import Derived.Test.YthhfjagnmhhapaaGreatE02
import Derived.Test.YthhfjagnmhhapaaGreatE03
import Derived.Test.YthhfjagnmhhapaaGreatE04
import Derived.Test.YthhfjagnmhhapaaGreatE05
import Derived.Test.YthhfjagnmhhapaaGreatE06
import Derived.Test.YthhfjagnmhhapaaGreatE07

namespace Go.Proofs.YthhfjagnmhhapaaGreat
open Go.W Go.PM
theorem refMoved_spec {xs : List Int} {a : Option Addr} {w : World} (hx : Sl w a (intsL xs)) (cap : Nat) (hl : xs.length ≤ 512) :
    CallsR Tryz.prog 43 #[.slice a xs.length cap] w (fun v w' => ∃ m, v = .int .i64 m ∧ Moved xs m ∧ Ex w w') := by
  refine callsR_of (args := [_]) Tryz.func43 rfl rfl ?_
  repeat' (first | (refine k_pure rfl ?_) | (refine then_normal ?_) | (refine cw_seq ?_) | (refine cw_region rfl ?_) | (refine rr_nil ?_) | (refine k_len rfl ?_) | (refine cw_block ?_))
  refine cw_loop (ι := Nat) [2, 3, 4, 7, 8, 9, 10, 11, 12, 13, 14, 15, 16] (fun s => [(7, .int .i64 (s : Int))]) (fun s w' => s ≤ xs.length ∧ Ex w w' ∧ xs.take s = idList s) (fun s => xs.length - s)
    0 ⟨rfl, trivial⟩ ⟨by simp, Ex.refl _, rfl⟩ ?_
  rintro k ξ w2 ⟨hk, hE, hT⟩
  show CW _ _ _ _ (over [(7, .int .i64 (k : Int))] _) w2
  have hx2 := hx.ext hE
  repeat' (first | (refine k_indexN rfl rfl (hx2.plain (by simp; omega)) (by omega) ?_) | (refine k_loadI rfl hx2 (by omega) ?_) | (refine k_pure rfl ?_) | (refine then_normal ?_) | (refine cw_seq ?_) | (refine cw_region rfl ?_) | (refine rr_nil ?_) | (refine k_addI rfl rfl (by omega) (by omega) ?_) | (refine cw_cond_dec rfl (fun hc => ?_) (fun hc => ?_)) | (refine cw_block ?_) | (refine cw_exit ?_) | (refine then_exit ?_) | (refine in_exit ?_) | (refine in_normal ?_) | (refine cw_ret ?_) | (refine then_ret ?_) | (refine in_ret ?_) | (refine cw_skip ?_))
  · exact ret1 rfl (rt rfl) ⟨_, rfl, .inr ⟨by omega, by omega, by unfold ap; rw [Int.toNat_natCast]; exact fun h => absurd h.symm (by assumption)⟩, hE⟩
  · refine ⟨⟨k + 1, ⟨by omega, hE, ?_⟩, by omega, rfl, trivial⟩, (by (repeat (first | exact agree_mask _ _ _ | refine agree_upd rfl ?_ | refine agree_updO rfl ?_ | refine agree_overIn rfl ?_ | refine agree_maskIn rfl ?_)))⟩
    have e : xs.getD k 0 = (k : Int) := by omega
    rw [take_succ_getD xs 0 (by omega), hT, idList_succ, e]
  · obtain rfl : k = xs.length := by omega
    rw [List.take_of_length_le (by omega)] at hT
    exact ret1 rfl (rt rfl) ⟨_, rfl, .inl ⟨rfl, hT⟩, hE⟩
theorem getD_setS {l : List SD} {y z : Nat} {s : SD} (h : y < l.length) : (l.set y s).getD z sd0 = if y = z then s else l.getD z sd0 := by
  rw [List.getD_eq_getElem?_getD, List.getElem?_set]
  by_cases e : y = z
  · subst e; simp [h]
  · rw [if_neg e, if_neg e, List.getD_eq_getElem?_getD]
theorem MpAt.add {w : World} {n : Nat} {l : Lv} {ms : List SD} (h : MpAt w n l ms) (hl : l.back.length = l.orb.length) {y : Nat} (hy : y < n) (hm : (y : Int) ∉ l.orb) {b : List Int} {pg pc : Nat} (hs : Sl w (some ⟨pg, 0, none⟩) (intsL (inv b))) :
    MpAt w n (l.add (y : Int) b) (ms.set y ⟨some ⟨pg, 0, none⟩, n, pc⟩) := by
  have hlen := h.len
  refine ⟨by simp [hlen], fun z hz => ?_, fun z hz hn => ?_⟩
  · rw [getD_setS (by omega)]
    by_cases e : y = z
    · subst e
      rw [if_pos rfl, add_to_new hl hm]
      exact ⟨pg, pc, rfl, hs⟩
    · have hz' : (z : Int) ∈ l.orb := by
        have hz2 : (z : Int) ∈ l.orb ++ [(y : Int)] := hz
        rw [List.mem_append, List.mem_singleton] at hz2
        rcases hz2 with h | h
        · exact h
        · omega
      rw [if_neg e, add_to_old hl hz']
      exact h.inn z hz'
  · have hn' : (z : Int) ∉ l.orb ++ [(y : Int)] := hn
    rw [List.mem_append, List.mem_singleton, not_or] at hn'
    rw [getD_setS (by omega), if_neg (by omega)]
    exact h.out z hz hn'.1
theorem MpAt.fr {w w' : World} {n x : Nat} {l : Lv} {ms : List SD} (h : MpAt w n l ms) (f : Fr (One x) w w') (hne : ∀ y g c, (y : Nat) < n → ((y : Nat) : Int) ∈ l.orb → ms.getD y sd0 = ⟨some ⟨g, 0, none⟩, n, c⟩ → g ≠ x) (hin : ∀ y ∈ l.orb, 0 ≤ y ∧ y < n) : MpAt w' n l ms :=
  ⟨h.len, fun y hy => by
    obtain ⟨g, c, h1, h2⟩ := h.inn y hy
    have := hin _ hy
    exact ⟨g, c, h1, h2.fr f (by rintro _ ⟨⟩; exact hne y g c (by omega) hy h1)⟩, h.out⟩
/-- what holds within the function level -/
structure LJ (w0 w : World) (n gr gm qb qc : Nat) (l : Lv) (ms : List SD) : Prop where
  ex : Ex w0 w
  res : Blk w gr 85 [.int .i64 0, .slice none 0 0, .slice none 0 0]
  mb : Blk w gm 43 (ms.map SD.val)
  mp : MpAt w n l ms
  q : Own w 0 3 1 (ba qb) l.orb.length qc (intsL l.orb)
  ne : ∀ y g c, (y : Nat) < n → ((y : Nat) : Int) ∈ l.orb → ms.getD y sd0 = ⟨some ⟨g, 0, none⟩, n, c⟩ → gm < g ∧ g ≠ qb ∧ g < w.heap.size
  lo : w0.heap.size ≤ gr ∧ gr < gm ∧ gm < qb ∧ qb < w.heap.size
set_option maxHeartbeats 1000000 in
theorem rlevel_spec {n : Nat} {pt : Int} {gens : List (List Int)} {ga : Option Addr} {gs : List SD} {w : World} (gc : Nat) (h1 : 1 ≤ n ∧ n ≤ 512) (hpt : 0 ≤ pt ∧ pt < n) (hg : GensN n gens) (hL : Lists w .i64 ga gs gens) (hgl : gens.length ≤ 1000000000000) :
    CallsR Tryz.prog 41 #[.int .i64 (n : Int), .int .i64 pt, .slice ga gs.length gc] w fun v w' => Ex w w' ∧ ∃ (m : Nat) (ms : List SD) (l : Lv), v = .agg ((⟨ga, gs, gc, ba m, ms, n⟩ : RH).cells pt).toArray ∧ RL w' n ⟨ga, gs, gc, ba m, ms, n⟩ l ∧ LvOK n l ∧ l.pt = pt ∧ l.gens = gens ∧ (∀ a, l.done.getD a 0 = 0) ∧ (w.heap.size ≤ m ∧ m < w'.heap.size) ∧ ∀ y ad, (ms.getD y sd0).a = some ad → w.heap.size ≤ ad.block ∧ ad.block < w'.heap.size := by
  refine callsR_of (args := [_, _, _]) Tryz.func41 rfl rfl ?_
  obtain ⟨x0, rfl⟩ : ∃ m : Nat, pt = (m : Int) := ⟨pt.toNat, by omega⟩
  have hx0 : x0 < n := by omega
  have hid : identF (n : Int) = (idList n, true) := by unfold identF; rw [if_pos (by omega), Int.toNat_natCast]
  have hlen := hL.len
  repeat' (first | (refine cw_seq ?_) | (refine cw_region rfl ?_))
  refine k_allocA (vs := [.int .i64 0, .slice none 0 0, .slice none 0 0]) (fun gr w1 hn1 => ⟨fun _ _ => trivial, ?_⟩)
  repeat' (first | (refine k_makeS rfl rfl (by omega) (by omega) (fun gm w2 hn2 => ⟨fun _ _ => trivial, ?_⟩)) | (refine k_pure rfl ?_) | (refine then_normal ?_) | (refine cw_seq ?_) | (refine cw_region rfl ?_) | (refine rr_nil ?_))
  refine k_call (refIdentity_spec (n : Int) w2) rfl ?_
  rintro v w3 ⟨b3, c3, rfl, hO3, hE3⟩
  refine ⟨fun _ _ => trivial, ?_⟩
  rw [hid] at hO3 ⊢
  rw [idList_length] at hO3 ⊢
  obtain ⟨bg, rfl⟩ := hO3.baPos (by omega)
  have l1 := hn1.lo; have l2 := hn2.lo; have lb1 := hn1.blk.lt; have lb2 := hn2.blk.lt; have lb3 := (hO3.lo _ rfl).1; have lb4 := (hO3.lo _ rfl).2; have s3 := hE3.size; have s2 := hn2.ex.size
  simp only at lb3 lb4
  have hr1 := hn1.blk
  repeat' (first | (refine k_indexN (j := x0) rfl rfl ⟨_, _, rfl⟩ (by omega) ?_) | (refine k_storeS rfl rfl (hn2.blk.ext hE3) (by simp; omega) (fun w4 hc4 hb4 => ⟨fun _ _ => trivial, ?_⟩)) | (refine k_litI1 rfl (fun qb w5 hn5 => ⟨fun _ _ => trivial, ?_⟩)) | (refine k_pure rfl ?_) | (refine then_normal ?_) | (refine cw_seq ?_) | (refine cw_region rfl ?_) | (refine rr_nil ?_) | (refine cw_block ?_))
  have l5 := hn5.lo
  have s4 := hc4.size
  have lb5 := hn5.blk.lt
  have ex5 : Ex w w5 := (((hn1.ex.trans hn2.ex).trans hE3).chg hc4 (by have := hn1.ex.size; omega)).trans hn5.ex
  have hmp5 : MpAt w5 n (Lv.one n (x0 : Int) gens) ((List.replicate n sd0).set x0 ⟨some ⟨bg, 0, none⟩, n, c3⟩) := by
    have e : ∀ z, (List.replicate n sd0).getD z sd0 = sd0 := fun z => by rw [List.getD_eq_getElem?_getD, List.getElem?_replicate]; split <;> rfl
    refine ⟨by simp, fun y hy => ?_, fun y hy hn => ?_⟩
    · have hy' : (y : Int) ∈ [(x0 : Int)] := hy
      rw [List.mem_singleton] at hy'
      obtain rfl : y = x0 := by omega
      refine ⟨bg, c3, by rw [getD_setS (by simp; omega), if_pos rfl], ?_⟩
      have e2 : (Lv.one n (y : Int) gens).to (y : Int) = idList n := by simp [Lv.to, Lv.one, Lv.bk]
      rw [e2, inv_one h1]
      exact (hO3.sl.chg hc4 (by rintro _ ⟨⟩; simp only; omega)).ext hn5.ex
    · have hn' : (y : Int) ∉ [(x0 : Int)] := hn
      rw [List.mem_singleton] at hn'
      rw [getD_setS (by simp; omega), if_neg (by omega), e]
  refine cw_loop (ι := Nat × Lv × List SD × Nat × Nat) [8, 9, 11, 12, 25, 26, 27, 28, 29, 30, 31, 32, 33, 34, 35, 36, 37, 38, 39, 40, 41, 42, 43, 44, 45, 46, 47, 48, 49, 50, 51, 52, 53, 54, 55, 56, 57, 58, 59, 60, 61, 62, 63, 64, 65] (fun s => [(9, .int .i64 (s.1 : Int)), (8, .slice (ba s.2.2.2.1) s.2.1.orb.length s.2.2.2.2)])
    (fun s w' => LJ w w' n gr gm s.2.2.2.1 s.2.2.2.2 s.2.1 s.2.2.1 ∧ Part n s.2.1 ∧ Grow (Lv.one n (x0 : Int) gens) s.2.1 ∧ Clo s.2.1 s.1 0 ∧ s.1 ≤ s.2.1.orb.length) (fun s => n - s.1)
    (0, Lv.one n (x0 : Int) gens, (List.replicate n sd0).set x0 ⟨some ⟨bg, 0, none⟩, n, c3⟩, qb, 1) ⟨rfl, rfl, trivial⟩
    ⟨⟨ex5, ?_, (hb4.ext hn5.ex), hmp5, (hn5.blk.own (n := 1) (s := 1) (by simp) (by unfold maxLen; omega) (Nat.zero_le _)), ?_, ⟨by omega, by omega, by simp only; omega, lb5⟩⟩, part_one h1 hpt hg, Grow.refl _, ⟨fun i hi => absurd hi (by simp), fun j hj => absurd hj (by simp)⟩, Nat.zero_le _⟩ ?_
  · exact (((hr1.ext hn2.ex).ext hE3).chg hc4 (by omega)).ext hn5.ex
  · intro y g c hyn hy he
    have hy' : (y : Int) ∈ [(x0 : Int)] := hy
    rw [List.mem_singleton] at hy'
    obtain rfl : y = x0 := by omega
    rw [getD_setS (by simp; omega), if_pos rfl] at he
    simp only [SD.mk.injEq, Option.some.injEq, Addr.mk.injEq] at he
    simp only
    omega
  rintro ⟨i, l1, ms1, qb1, qc1⟩ ξ w6 ⟨hJ1, hp1, hg1, hc1, hi1⟩
  simp only at hJ1 hp1 hg1 hc1 hi1
  show CW _ _ _ _ (over [(9, .int .i64 (i : Int)), (8, .slice (ba qb1) l1.orb.length qc1)] _) w6
  have hol1 := hp1.orb_le
  repeat' (first | (refine k_pure rfl ?_) | (refine then_normal ?_) | (refine cw_seq ?_) | (refine cw_region rfl ?_) | (refine rr_nil ?_) | (refine k_len rfl ?_) | (refine cw_cond_dec rfl (fun hc => ?_) (fun hc => ?_)) | (refine cw_block ?_) | (refine cw_exit ?_) | (refine then_exit ?_) | (refine in_exit ?_) | (refine cw_skip ?_))
  · have hio : i < l1.orb.length := by omega
    refine cw_loop (ι := Nat × Lv × List SD × Nat × Nat) [8, 11, 12, 33, 34, 35, 36, 37, 38, 39, 40, 41, 42, 43, 44, 45, 46, 47, 48, 49, 50, 51, 52, 53, 54, 55, 56, 57, 58, 59, 60, 61, 62, 63, 64, 65] (fun s => [(33, .int .i64 (s.1 : Int)), (8, .slice (ba s.2.2.2.1) s.2.1.orb.length s.2.2.2.2)])
      (fun s w' => LJ w w' n gr gm s.2.2.2.1 s.2.2.2.2 s.2.1 s.2.2.1 ∧ Part n s.2.1 ∧ Grow (Lv.one n (x0 : Int) gens) s.2.1 ∧ Clo s.2.1 i s.1 ∧ i < s.2.1.orb.length ∧ s.1 ≤ gens.length) (fun s => gens.length - s.1)
      (0, l1, ms1, qb1, qc1) ⟨rfl, rfl, trivial⟩ ⟨hJ1, hp1, hg1, hc1, hio, Nat.zero_le _⟩ ?_
    rintro ⟨k, l2, ms2, qb2, qc2⟩ ξ2 w7 ⟨hJ2, hp2, hg2, hc2, hi2, hk2⟩
    simp only at hJ2 hp2 hg2 hc2 hi2 hk2
    show CW _ _ _ _ (over [(33, .int .i64 (k : Int)), (8, .slice (ba qb2) l2.orb.length qc2)] _) w7
    have hgL := hL.ext hJ2.ex
    have hgg : l2.gens = gens := hg2.gens
    obtain ⟨⟨sa, sl, sc⟩, hsd⟩ : ∃ s, gs.getD k sd0 = s := ⟨_, rfl⟩
    repeat' (first | (refine k_indexN rfl rfl (hgL.sl.plain (by simp; omega)) (by omega) ?_) | (refine k_loadSd rfl hgL.sl (by omega) hsd ?_) | (refine k_pure rfl ?_) | (refine then_normal ?_) | (refine cw_seq ?_) | (refine cw_region rfl ?_) | (refine rr_nil ?_) | (refine k_addI rfl rfl (by omega) (by omega) ?_) | (refine cw_cond_dec rfl (fun hc => ?_) (fun hc => ?_)) | (refine cw_block ?_) | (refine cw_exit ?_) | (refine then_exit ?_) | (refine in_exit ?_) | (refine in_normal ?_) | (refine cw_skip ?_))
    · have hkg : k < gens.length := by omega
      have hgP := hg _ (getD_mem (d := []) hkg)
      obtain ⟨hsl, hsn⟩ := hgL.each k hkg
      have hkey : l2.gens.getD k [] = gens.getD k [] := by rw [hgg]
      generalize hgk : gens.getD k [] = g at *
      rw [hsd] at hsl hsn
      simp only at hsl hsn
      have hgl' : g.length = n := hgP.2
      obtain rfl : sl = n := by omega
      have hx := hp2.orb_in (getD_mem (d := 0) hi2)
      have hyr := hgP.ap hx
      obtain ⟨x, hx'⟩ : ∃ m : Nat, l2.orb.getD i 0 = (m : Int) := ⟨(l2.orb.getD i 0).toNat, by omega⟩
      obtain ⟨y, hy'⟩ : ∃ m : Nat, g.getD x 0 = (m : Int) := ⟨(g.getD x 0).toNat, by unfold ap at hyr; rw [hx', Int.toNat_natCast] at hyr; omega⟩
      have hap : ap g (l2.orb.getD i 0) = (y : Int) := by unfold ap; rw [hx', Int.toNat_natCast, hy']
      have hyn : y < sl := by omega
      have hxn : x < sl := by omega
      have hq2 := hJ2.q.sl
      have hmb := hJ2.mb.sl
      have hml := hJ2.mp.len
      have hol2 := hp2.orb_le
      have hxm : (x : Int) ∈ l2.orb := by rw [← hx']; exact getD_mem hi2
      obtain ⟨gx, cx, hsx, hSx⟩ := hJ2.mp.inn x hxm
      have hsx' : ms2.getD x { a := none, len := 0, cap := 0 } = _ := hsx
      by_cases hm : (y : Int) ∈ l2.orb
      · obtain ⟨gy, cy, hsy, hSy⟩ := hJ2.mp.inn y hm
        repeat' (first | (refine k_indexN (j := i) rfl rfl ⟨_, _, rfl⟩ (by omega) ?_) | (refine k_loadI rfl hq2 (by omega) ?_) | (refine k_indexN (j := x) (a := sa) (l := sl) (c := sc) rfl (congrArg _ hx') (hsl.plain (by simp; omega)) (by omega) ?_) | (refine k_loadI rfl hsl (by omega) ?_) | (refine k_indexN (j := y) rfl (congrArg _ hy') ⟨_, _, rfl⟩ (by omega) ?_) | (refine k_loadSd rfl hmb (by omega) hsy ?_) | (refine k_eqNil rfl rfl ?_) | (refine k_pure rfl ?_) | (refine then_normal ?_) | (refine cw_seq ?_) | (refine cw_region rfl ?_) | (refine rr_nil ?_) | (refine k_addI rfl rfl (by omega) (by omega) ?_) | (refine cw_cond_false rfl ?_) | (refine in_normal ?_) | (refine cw_skip ?_))
        refine ⟨⟨(k + 1, l2, ms2, qb2, qc2), ⟨hJ2, hp2, hg2, hc2.skip (by rw [hkey, hap]; exact hm), hi2, by simp only; omega⟩, by simp only; omega, rfl, rfl, trivial⟩, (by (repeat (first | exact agree_mask _ _ _ | refine agree_upd rfl ?_ | refine agree_updO rfl ?_ | refine agree_overIn rfl ?_ | refine agree_maskIn rfl ?_)))⟩
      · have hsy := hJ2.mp.out y hyn hm
        have hlt := hJ2.lo
        have hto : l2.to (x : Int) = l2.bk i := by unfold Lv.to; rw [← hx', idxOf_nd hp2.nd hi2]
        have hbp := (gen_grp hp2.n1 hp2.gens).perm _ (hp2.bin i hi2)
        have hpx : PermN sl (inv (l2.to (x : Int))) := by rw [hto]; exact hbp.inv
        have hxl := hpx.2
        repeat' (first | (refine k_indexN (j := i) rfl rfl ⟨_, _, rfl⟩ (by omega) ?_) | (refine k_loadI rfl hq2 (by omega) ?_) | (refine k_indexN (j := x) (a := sa) (l := sl) (c := sc) rfl (congrArg _ hx') (hsl.plain (by simp; omega)) (by omega) ?_) | (refine k_loadI rfl hsl (by omega) ?_) | (refine k_indexN (j := y) rfl (congrArg _ hy') ⟨_, _, rfl⟩ (by omega) ?_) | (refine k_loadSd rfl hmb (by omega) hsy ?_) | (refine k_eqNil rfl rfl ?_) | (refine k_indexN (j := x) rfl (congrArg _ hx') ⟨_, _, rfl⟩ (by omega) ?_) | (refine k_loadSd rfl hmb (by omega) hsx ?_) | (refine k_pure rfl ?_) | (refine then_normal ?_) | (refine cw_seq ?_) | (refine cw_region rfl ?_) | (refine rr_nil ?_) | (refine cw_cond_true rfl ?_))
        refine k_call (product_spec (xs := inv (l2.to (x : Int))) (ys := g) hSx hsl cx sc (by omega) (fun z hz => by obtain ⟨j, hj, e⟩ := mem_iff_getD.1 hz; have := hpx.1.lt (k := j) hj; omega)) (by rw [hxl, hgl']; rfl) ?_
        rintro v w8 ⟨pb, pc, rfl, hO8, hE8⟩
        refine ⟨fun _ _ => trivial, ?_⟩
        rw [mulP_length, hxl] at hO8 ⊢
        obtain ⟨pg, rfl⟩ := hO8.baPos (by omega)
        have lp := hO8.lo _ rfl
        simp only at lp
        have s8 := hE8.size
        repeat' (first | (refine k_indexN (j := y) rfl (congrArg _ hy') ⟨_, _, rfl⟩ (by omega) ?_) | (refine k_storeS (j := y) rfl rfl (hJ2.mb.ext hE8) (by omega) (fun w9 hc9 hb9 => ⟨fun _ _ => trivial, ?_⟩)) | (refine k_pure rfl ?_) | (refine then_normal ?_) | (refine cw_region rfl ?_) | (refine rr_nil ?_))
        have f9 := f1C hc9
        have s9 : w8.heap.size ≤ w9.heap.size := f9.size
        have q9 := Own.f1 (hJ2.q.ext hE8) f9 (by omega)
        refine k_app1I rfl (congrArg _ hy') rfl rfl q9 (by omega) (by omega) (Nat.zero_le _) (fun gx6 a6 c6 w10 ho6 hg6 hA6 => ?_)
        obtain ⟨o6, rfl⟩ := Own.ba ho6
        replace hA6 := addr_or hA6
        have lo6 : o6 < w10.heap.size := (ho6.lo _ rfl).2
        have f10 := f1G hg6
        have s10 : w9.heap.size ≤ w10.heap.size := f10.size
        repeat' (first | (refine k_pure rfl ?_) | (refine then_normal ?_) | (refine cw_region rfl ?_) | (refine rr_nil ?_) | (refine k_addI rfl rfl (by omega) (by omega) ?_) | (refine in_normal ?_))
        have hbk : mulP (inv (l2.to (x : Int))) g = inv (mulP (inv g) (l2.bk i)) := by rw [inv_mulP hgP.inv hbp, inv_inv hgP, hto]
        have hnew : Sl w10 (some ⟨pg, 0, none⟩) (intsL (inv (mulP (inv g) (l2.bk i)))) := by
          rw [← hbk]
          exact (hO8.sl.fr f9 (by rintro _ ⟨⟩; show pg ≠ gm; omega)).fr f10 (by rintro _ ⟨⟩; show pg ≠ qb2; omega)
        have hin := fun z hz => hp2.orb_in (y := z) hz
        have hmp10 : MpAt w10 sl l2 ms2 := ((hJ2.mp.ext hE8).fr f9 (fun z g' c' hz hm' he => by have := hJ2.ne z g' c' hz hm' he; omega) hin).fr f10 (fun z g' c' hz hm' he => (hJ2.ne z g' c' hz hm' he).2.1) hin
        have hadd := hp2.add hi2 (k := k) (by rw [hgg]; exact hkg) (by rw [hkey, hap]; exact hm)
        rw [hkey, hap] at hadd
        have hcl := hc2.add hi2 (mulP (inv g) (l2.bk i))
        rw [hkey, hap] at hcl
        refine ⟨⟨(k + 1, l2.add (y : Int) (mulP (inv g) (l2.bk i)), ms2.set y ⟨some ⟨pg, 0, none⟩, sl, pc⟩, o6, c6), ⟨⟨?_, ?_, ?_, hmp10.add hp2.len hyn hm hnew, ?_, ?_, ⟨hlt.1, hlt.2.1, by simp only; omega, by simp only; omega⟩⟩, hadd, hg2.add _ _, hcl, ?_, by simp only; omega⟩, by simp only; omega, rfl, ?_, trivial⟩, (by (repeat (first | exact agree_mask _ _ _ | refine agree_upd rfl ?_ | refine agree_updO rfl ?_ | refine agree_overIn rfl ?_ | refine agree_maskIn rfl ?_)))⟩
        · exact Ex.gb ((hJ2.ex.trans hE8).chg hc9 (by omega)) hg6 (by rintro _ ⟨⟩; show w.heap.size ≤ qb2; omega)
        · exact Blk.f1 (Blk.f1 (hJ2.res.ext hE8) f9 (by omega)) f10 (by omega)
        · exact Blk.f1 hb9 f10 (by omega)
        · simp only [Lv.add, List.length_append, List.length_singleton]
          exact ho6
        · intro z g' c' hz hm' he
          rw [getD_setS (by omega)] at he
          by_cases e : y = z
          · rw [if_pos e] at he
            simp only [SD.mk.injEq, Option.some.injEq, Addr.mk.injEq] at he
            simp only
            omega
          · rw [if_neg e] at he
            have hz' : (z : Int) ∈ l2.orb := by
              have hz2 : (z : Int) ∈ l2.orb ++ [(y : Int)] := hm'
              rw [List.mem_append, List.mem_singleton] at hz2
              rcases hz2 with h | h
              · exact h
              · omega
            have := hJ2.ne z g' c' hz hz' he
            simp only
            omega
        · simp only [Lv.add, List.length_append, List.length_singleton]; omega
        · show Value.slice (ba o6) (l2.orb.length + 1) c6 = .slice (ba o6) (l2.orb ++ [(y : Int)]).length c6
          rw [List.length_append, List.length_singleton]
    · obtain rfl : k = gens.length := by omega
      rw [← hgg] at hc2
      refine ⟨⟨(i + 1, l2, ms2, qb2, qc2), ⟨hJ2, hp2, hg2, hc2.next, by simp only; omega⟩, by simp only; omega, rfl, rfl, trivial⟩, (by (repeat (first | exact agree_mask _ _ _ | refine agree_upd rfl ?_ | refine agree_updO rfl ?_ | refine agree_overIn rfl ?_ | refine agree_maskIn rfl ?_)))⟩
  · obtain rfl : i = l1.orb.length := by omega
    refine k_build (cs := (⟨ga, gs, gc, ba gm, ms1, n⟩ : RH).cells (x0 : Int)) (by show _ = some (#[.int .i64 (x0 : Int), .slice ga gs.length gc, .slice (ba gm) ms1.length n] : Array Value); rw [hJ1.mp.len]; rfl) ?_
    refine k_storeV (n := 3) rfl rfl rfl rfl hJ1.res rfl (fun w11 hc11 hb11 => ⟨fun _ _ => trivial, ?_⟩)
    repeat' (first | (refine then_normal ?_) | (refine rr_nil ?_) | (refine cw_ret ?_))
    have f11 := f1C hc11
    have hlo := hJ1.lo
    refine ret1 rfl (rc rfl rfl hb11) ⟨hJ1.ex.chg hc11 (by omega), gm, ms1, l1, rfl, ⟨?_, ?_, ?_⟩, hp1.ok hc1, hg1.pt, hg1.gens, hg1.new, ⟨by omega, by have := hb11.lt; have := (Blk.f1 hJ1.mb f11 (by omega)).lt; omega⟩, ?_⟩
    · show Lists w11 .i64 ga gs l1.gens
      rw [show l1.gens = gens from hg1.gens]
      exact hL.ext (hJ1.ex.chg hc11 (by omega))
    · exact (Blk.f1 hJ1.mb f11 (by omega)).sl
    · exact hJ1.mp.fr f11 (fun z g' c' hz hm' he => by have := hJ1.ne z g' c' hz hm' he; omega) (fun z hz => hp1.orb_in hz)
    · intro y ad he
      have s11 : w6.heap.size ≤ w11.heap.size := f11.size
      by_cases hyn : y < n
      · by_cases hm : (y : Int) ∈ l1.orb
        · obtain ⟨g', c', h1', _⟩ := hJ1.mp.inn y hm
          have := hJ1.ne y g' c' hyn hm h1'
          rw [h1'] at he
          simp only [Option.some.injEq] at he
          subst he
          simp only
          omega
        · rw [hJ1.mp.out y hyn hm] at he; cases he
      · rw [List.getD_eq_getElem?_getD, List.getElem?_eq_none (by have := hJ1.mp.len; omega)] at he; cases he
end Go.Proofs.YthhfjagnmhhapaaGreat

namespace Go.Proofs.YthhfjagnmhhapaaGreat
open Go.W Go.PM
theorem rsize_spec {w : World} {n : Nat} {h : RH} {l : Lv} (hL : RL w n h l) (ok : LvOK n l) :
    CallsR Tryz.prog 40 #[.agg (h.cells l.pt).toArray] w fun v w' => v = .int .i64 ((l.orb.length : Nat) : Int) ∧ Ex w w' := by
  refine callsR_of (args := [_]) Tryz.func40 rfl rfl ?_
  have hn := ok.n1
  have hml := hL.mp.len
  repeat' (first | (refine k_boxA rfl (fun g w1 hn1 => ⟨fun _ _ => trivial, ?_⟩)) | (refine k_pure rfl ?_) | (refine then_normal ?_) | (refine cw_seq ?_) | (refine cw_region rfl ?_) | (refine rr_nil ?_) | (refine k_fieldAddr rfl ?_))
  have hb := hn1.blk
  repeat' (first | (refine k_loadC rfl hb rfl ?_) | (refine k_pure rfl ?_) | (refine then_normal ?_) | (refine rr_nil ?_) | (refine k_len rfl ?_) | (refine cw_block ?_))
  refine cw_loop (ι := Nat) [3, 5, 9, 10, 11, 12, 13, 14, 15, 16, 17] (fun s => [(9, .int .i64 (s : Int)), (3, .int .i64 ((cntTo l.orb s : Nat) : Int))]) (fun s w' => s ≤ n ∧ Ex w w') (fun s => n - s)
    0 ⟨rfl, rfl, trivial⟩ ⟨Nat.zero_le _, hn1.ex⟩ ?_
  rintro i ξ w2 ⟨hi, hE⟩
  show CW _ _ _ _ (over [(9, .int .i64 (i : Int)), (3, .int .i64 ((cntTo l.orb i : Nat) : Int))] _) w2
  have hma := hL.ma.ext hE
  have hcl := cntTo_le l.orb i
  have hpl : 0 < n → W.plain h.ma := fun h0 => hma.plain (by simp; omega)
  by_cases hin : i < n
  · by_cases hm : (i : Int) ∈ l.orb
    · obtain ⟨g', c', hs, _⟩ := hL.mp.inn i hm
      repeat' (first | (refine k_indexN (j := i) rfl rfl (hpl (by omega)) (by omega) ?_) | (refine k_loadSd rfl hma (by omega) hs ?_) | (refine k_neqNil rfl rfl ?_) | (refine k_pure rfl ?_) | (refine then_normal ?_) | (refine cw_seq ?_) | (refine cw_region rfl ?_) | (refine rr_nil ?_) | (refine k_addI rfl rfl (by omega) (by omega) ?_) | (refine cw_cond_true rfl ?_) | (refine cw_cond_dec rfl (fun hc => ?_) (fun hc => ?_)) | (refine cw_block ?_) | (refine cw_exit ?_) | (refine then_exit ?_) | (refine in_exit ?_) | (refine in_normal ?_) | (refine cw_ret ?_) | (refine cw_skip ?_))
      · refine ⟨⟨i + 1, ⟨by omega, hE⟩, by omega, rfl, ?_, trivial⟩, (by (repeat (first | exact agree_mask _ _ _ | refine agree_upd rfl ?_ | refine agree_updO rfl ?_ | refine agree_overIn rfl ?_ | refine agree_maskIn rfl ?_)))⟩
        rw [cntTo, if_pos hm]; rfl
      · omega
    · have hs := hL.mp.out i hin hm
      repeat' (first | (refine k_indexN (j := i) rfl rfl (hpl (by omega)) (by omega) ?_) | (refine k_loadSd rfl hma (by omega) hs ?_) | (refine k_neqNil rfl rfl ?_) | (refine k_pure rfl ?_) | (refine then_normal ?_) | (refine cw_seq ?_) | (refine cw_region rfl ?_) | (refine rr_nil ?_) | (refine k_addI rfl rfl (by omega) (by omega) ?_) | (refine cw_cond_false rfl ?_) | (refine cw_cond_dec rfl (fun hc => ?_) (fun hc => ?_)) | (refine cw_block ?_) | (refine cw_exit ?_) | (refine then_exit ?_) | (refine in_exit ?_) | (refine in_normal ?_) | (refine cw_ret ?_) | (refine cw_skip ?_))
      · refine ⟨⟨i + 1, ⟨by omega, hE⟩, by omega, rfl, ?_, trivial⟩, (by (repeat (first | exact agree_mask _ _ _ | refine agree_upd rfl ?_ | refine agree_updO rfl ?_ | refine agree_overIn rfl ?_ | refine agree_maskIn rfl ?_)))⟩
        rw [cntTo, if_neg hm]; rfl
      · omega
  · obtain rfl : i = n := by omega
    repeat' (first | (refine k_pure rfl ?_) | (refine then_normal ?_) | (refine cw_seq ?_) | (refine cw_region rfl ?_) | (refine rr_nil ?_) | (refine cw_cond_dec rfl (fun hc => ?_) (fun hc => ?_)) | (refine cw_block ?_) | (refine cw_exit ?_) | (refine then_exit ?_) | (refine in_exit ?_) | (refine cw_ret ?_) | (refine cw_skip ?_))
    · omega
    · refine ret1 rfl (rt rfl) ⟨?_, hE⟩
      rw [cntTo_eq _ ok.nd (fun y hy => ok.orb_in hy)]; rfl
set_option maxHeartbeats 1000000 in
theorem rsift_spec {w : World} {n first : Nat} {L : RC} {a : Option Addr} {cap : Nat} {p : List Int} {pa : Option Addr} {pc : Nat} (hs : Sl w a (cellsL L)) (hC : RCs w n L) (hok : ∀ i, first ≤ i → i < L.length → LvOK n (L.getD i rc0).2) (hfi : first ≤ L.length) (hk : L.length ≤ 1000000000000)
    (pp : PermN n p) (hp : Sl w pa (intsL p)) :
    CallsR Tryz.prog 42 #[.slice a L.length cap, .int .i64 (first : Int), .slice pa n pc] w fun v w' => Ex w w' ∧ ∃ (ra : Option Addr) (rc : Nat), v = .tuple #[.slice ra n rc, .int .i64 ((first + (siftL ((lvsOf L).drop first) p).2 : Nat) : Int)] ∧
      Sl w' ra (intsL (siftL ((lvsOf L).drop first) p).1) ∧ (ra = pa ∨ ∀ ad, ra = some ad → w.heap.size ≤ ad.block ∧ ad.block < w'.heap.size) := by
  refine callsR_of (args := [_, _, _]) Tryz.func42 rfl rfl ?_
  have n1 := pp.n1
  have hll : (lvsOf L).length = L.length := List.length_map _
  repeat' (first | (refine k_pure rfl ?_) | (refine then_normal ?_) | (refine cw_seq ?_) | (refine cw_region rfl ?_) | (refine rr_nil ?_) | (refine cw_block ?_))
  refine cw_loop (ι := Nat × List Int × Option Addr × Nat) [2, 6, 7, 8, 9, 11, 12, 13, 14, 15, 16, 17, 18, 19, 20, 21, 22, 23, 24, 25, 26, 27, 28, 29, 30, 31, 32, 33, 34, 35, 36, 37, 38, 39] (fun s => [(8, .int .i64 (s.1 : Int)), (2, .slice s.2.2.1 n s.2.2.2)])
    (fun s w' => first ≤ s.1 ∧ s.1 ≤ L.length ∧ Ex w w' ∧ PermN n s.2.1 ∧ Sl w' s.2.2.1 (intsL s.2.1) ∧ siftL ((lvsOf L).drop first) p = ((siftL ((lvsOf L).drop s.1) s.2.1).1, (siftL ((lvsOf L).drop s.1) s.2.1).2 + (s.1 - first)) ∧ (s.2.2.1 = pa ∨ ∀ ad, s.2.2.1 = some ad → w.heap.size ≤ ad.block ∧ ad.block < w'.heap.size)) (fun s => L.length - s.1)
    (first, p, pa, pc) ⟨rfl, rfl, trivial⟩ ⟨Nat.le_refl _, hfi, Ex.refl _, pp, hp, by simp, .inl rfl⟩ ?_
  rintro ⟨i, q, qa, qc⟩ ξ w1 ⟨h1, h2, hE1, pq, hq, he, hfa⟩
  simp only at h1 h2 pq hq he hfa
  show CW _ _ _ _ (over [(8, .int .i64 (i : Int)), (2, .slice qa n qc)] _) w1
  by_cases hi : i < L.length
  · have ok := hok i h1 hi
    have hdrop := drop_cons (ls := lvsOf L) (i := i) (by omega)
    rw [lvsOf_getD] at hdrop
    rw [hdrop] at he
    obtain ⟨g, o, rfl⟩ := hs.plain (by rw [cellsL_len]; omega)
    have hc3 := fun w' (h : Ex w w') => cell3 (hs.ext h) hi
    have hlv := hC i hi
    generalize L.getD i rc0 = hl at *
    obtain ⟨h, l⟩ := hl
    simp only at ok he hc3 hlv
    have hpt := ok.pt
    have hpy := pq.ap hpt
    obtain ⟨x, hx'⟩ : ∃ m : Nat, l.pt = (m : Int) := ⟨l.pt.toNat, by omega⟩
    obtain ⟨y, hy'⟩ : ∃ m : Nat, q.getD x 0 = (m : Int) := ⟨(q.getD x 0).toNat, by unfold ap at hpy; rw [hx', Int.toNat_natCast] at hpy; omega⟩
    have hap : ap q l.pt = (y : Int) := by unfold ap; rw [hx', Int.toNat_natCast, hy']
    have hxn : x < n := by omega
    have hyn : y < n := by omega
    have hql := pq.2
    have hml := hlv.mp.len
    have hpm : W.plain h.ma := hlv.ma.plain (by simp; omega)
    have hpq : W.plain qa := hq.plain (by simp; omega)
    have hma := hlv.ma
    have hE1d : Ex w w1.drew := hE1.drew
    by_cases hm : (y : Int) ∈ l.orb
    · obtain ⟨gy, cy, hsy, hSy⟩ := hlv.mp.inn y hm
      repeat' (first | (refine k_lssT rfl rfl (by omega) ?_) | (refine k_pure rfl ?_) | (refine then_normal ?_) | (refine cw_seq ?_) | (refine cw_region rfl ?_) | (refine rr_nil ?_) | (refine k_len rfl ?_) | (refine cw_cond_true rfl ?_) | (refine cw_block ?_) | (refine cw_skip ?_))
      refine cw_draw (late := []) (plan := [(0, none), (1, none), (2, none), (3, none), (4, none), (5, none), (6, none), (7, none), (8, none), (9, none), (10, none), (11, none), (12, none), (13, none), (14, none), (15, none)]) (fun w' => Ex w w' ∧ Sl w' qa (intsL q)) mixed (by kernel_rfl) ⟨hE1d, hq.drew⟩ ?_
      repeat' (first | (refine k_index3 (j := i) rfl rfl ⟨_, _, rfl⟩ hi ?_) | (refine k_load rfl (fun _ h => (hc3 _ h.1).2.2) ?_) | (refine k_load rfl (fun _ h => (hc3 _ h.1).1) ?_) | (refine k_indexN (j := x) (a := qa) (l := n) (c := qc) rfl (congrArg _ hx') hpq hxn ?_) | (refine k_loadI (a := qa) rfl (fun _ h => h.2) (by omega) ?_) | (refine k_indexN (j := y) rfl (congrArg _ hy') hpm (by omega) ?_) | (refine k_loadSd rfl (fun _ h => hma.ext h.1) (by omega) hsy ?_) | (refine k_eqNil rfl rfl ?_) | (refine k_pure rfl ?_) | (refine then_normal ?_) | (refine cw_seq ?_) | (refine cw_region rfl ?_) | (refine rr_nil ?_) | (refine k_fieldAddr rfl ?_) | (refine cw_cond_false rfl ?_) | (refine cw_skip ?_))
      have pto : PermN n (l.to (y : Int)) := ok.grp.perm _ (ok.to_in hm)
      have hi1 : invTo (inv (l.to (y : Int))) (inv (l.to (y : Int))).length = l.to (y : Int) := by rw [invTo_inv pto.inv, inv_inv pto]
      refine k_call (refInv_spec (xs := inv (l.to (y : Int))) (hSy.ext hE1d) cy pto.inv.1) (by rw [pto.inv.2]; rfl) ?_
      rw [hi1]
      rintro v w2 ⟨b2, c2, rfl, hO2, hE2⟩
      refine ⟨fun _ _ => trivial, ?_⟩
      refine k_call (product_spec (xs := q) (ys := l.to (y : Int)) (hq.drew.ext hE2) hO2.sl qc c2 (by omega) (fun z hz => by obtain ⟨j, hj, e⟩ := mem_iff_getD.1 hz; have := pq.1.lt (k := j) hj; have := pto.2; omega)) (by rw [hql]; rfl) ?_
      rintro v w3 ⟨b3, c3, rfl, hO3, hE3⟩
      refine ⟨fun _ _ => trivial, ?_⟩
      rw [mulP_length, hql] at hO3 ⊢
      repeat' (first | (refine k_pure rfl ?_) | (refine then_normal ?_) | (refine cw_region rfl ?_) | (refine rr_nil ?_) | (refine k_addI rfl rfl (by omega) (by omega) ?_) | (refine in_normal ?_))
      have hE13 : Ex w w3 := (hE1d.trans hE2).trans hE3
      rw [siftL, if_pos (by rw [hap]; exact hm), hap] at he
      refine ⟨⟨(i + 1, mulP q (l.to (y : Int)), b3, c3), ⟨by simp only; omega, by simp only; omega, hE13, pq.mul pto, hO3.sl, ?_, .inr fun ad e => ?_⟩, by simp only; omega, rfl, rfl, trivial⟩, (by (repeat (first | exact agree_mask _ _ _ | refine agree_upd rfl ?_ | refine agree_updO rfl ?_ | refine agree_overIn rfl ?_ | refine agree_maskIn rfl ?_)))⟩
      · rw [he]
        simp only
        rw [show i + 1 - first = 1 + (i - first) by omega, Nat.add_assoc]
      · have := hO3.lo ad e
        have h4 := hE1d.size
        have h5 := hE2.size
        omega
    · have hsy := hlv.mp.out y hyn hm
      repeat' (first | (refine k_lssT rfl rfl (by omega) ?_) | (refine k_pure rfl ?_) | (refine then_normal ?_) | (refine cw_seq ?_) | (refine cw_region rfl ?_) | (refine rr_nil ?_) | (refine k_len rfl ?_) | (refine cw_cond_true rfl ?_) | (refine cw_block ?_) | (refine cw_skip ?_))
      refine cw_draw (late := []) (plan := [(0, none), (1, none), (2, none), (3, none), (4, none), (5, none), (6, none), (7, none), (8, none), (9, none), (10, none), (11, none), (12, none), (13, none), (14, none), (15, none)]) (fun w' => Ex w w' ∧ Sl w' qa (intsL q)) mixed (by kernel_rfl) ⟨hE1d, hq.drew⟩ ?_
      repeat' (first | (refine k_index3 (j := i) rfl rfl ⟨_, _, rfl⟩ hi ?_) | (refine k_load rfl (fun _ h => (hc3 _ h.1).2.2) ?_) | (refine k_load rfl (fun _ h => (hc3 _ h.1).1) ?_) | (refine k_indexN (j := x) (a := qa) (l := n) (c := qc) rfl (congrArg _ hx') hpq hxn ?_) | (refine k_loadI (a := qa) rfl (fun _ h => h.2) (by omega) ?_) | (refine k_indexN (j := y) rfl (congrArg _ hy') hpm (by omega) ?_) | (refine k_loadSd rfl (fun _ h => hma.ext h.1) (by omega) hsy ?_) | (refine k_eqNil rfl rfl ?_) | (refine k_pure rfl ?_) | (refine then_normal ?_) | (refine cw_seq ?_) | (refine cw_region rfl ?_) | (refine rr_nil ?_) | (refine k_fieldAddr rfl ?_) | (refine cw_cond_true rfl ?_) | (refine cw_ret ?_) | (refine then_ret ?_) | (refine in_ret ?_))
      rw [siftL, if_neg (by rw [hap]; exact hm)] at he
      refine ret2 rfl (rt rfl) (rt rfl) ⟨hE1d, qa, qc, ?_, ?_, hfa⟩
      · rw [he]; simp only; rw [show first + (0 + (i - first)) = i by omega]; rfl
      · rw [he]; exact hq.drew
  · obtain rfl : i = L.length := by omega
    have hd : (lvsOf L).drop L.length = [] := by rw [← hll]; simp
    rw [hd, siftL] at he
    repeat' (first | (refine k_lssF rfl rfl (by omega) ?_) | (refine k_pure rfl ?_) | (refine then_normal ?_) | (refine cw_seq ?_) | (refine cw_region rfl ?_) | (refine rr_nil ?_) | (refine k_len rfl ?_) | (refine cw_cond_false rfl ?_) | (refine cw_exit ?_) | (refine then_exit ?_) | (refine in_exit ?_) | (refine cw_ret ?_))
    refine ret2 rfl (rt rfl) (rt rfl) ⟨hE1, qa, qc, ?_, ?_, hfa⟩
    · rw [he]; simp only; rw [show first + (0 + (L.length - first)) = L.length by omega]; rfl
    · rw [he]; exact hq
end Go.Proofs.YthhfjagnmhhapaaGreat

namespace Go.Proofs.YthhfjagnmhhapaaGreat
open Go.W Go.PM
set_option maxHeartbeats 1000000 in
theorem rschr_spec {w : World} {n i : Nat} {L : RC} {a : Option Addr} {cap : Nat} (hs : Sl w a (cellsL L)) (hC : RCs w n L) (hok : ∀ j, j < L.length → LvOK n (L.getD j rc0).2) (hi : i < L.length) (hk : L.length ≤ 1000000000000) (hgl : (L.getD i rc0).2.gens.length ≤ 1000000000000) :
    CallsR Tryz.prog 45 #[.slice a L.length cap, .int .i64 (i : Int)] w fun v w' => Ex w w' ∧
      ((∃ b k ra rc, b < (L.getD i rc0).2.orb.length ∧ k < (L.getD i rc0).2.gens.length ∧ v = .tuple #[.slice (some ra) n rc, .int .i64 ((i + 1 + (siftL ((lvsOf L).drop (i + 1)) ((L.getD i rc0).2.schr b k)).2 : Nat) : Int)] ∧
        Sl w' (some ra) (intsL (siftL ((lvsOf L).drop (i + 1)) ((L.getD i rc0).2.schr b k)).1) ∧ (siftL ((lvsOf L).drop (i + 1)) ((L.getD i rc0).2.schr b k)).1 ≠ idList n ∧ w.heap.size ≤ ra.block ∧ ra.block < w'.heap.size) ∨
       (v = .tuple #[.slice none 0 0, .int .i64 0] ∧ ∀ b, b < (L.getD i rc0).2.orb.length → ∀ k, k < (L.getD i rc0).2.gens.length → (siftL ((lvsOf L).drop (i + 1)) ((L.getD i rc0).2.schr b k)).1 = idList n)) := by
  refine callsR_of (args := [_, _]) Tryz.func45 rfl rfl ?_
  obtain ⟨g, o, rfl⟩ := hs.plain (by rw [cellsL_len]; omega)
  have ok := hok i hi
  have hlv := hC i hi
  have hget := cellsL_get L i hi
  generalize hhl : L.getD i rc0 = hl at *
  obtain ⟨h, l⟩ := hl
  simp only at ok hlv hget hgl ⊢
  have n1 := ok.n1
  have hml := hlv.mp.len
  have hglen := hlv.gs.len
  have hpm : W.plain h.ma := hlv.ma.plain (by simp; omega)
  repeat' (first | (refine k_index3 (j := i) rfl rfl ⟨_, _, rfl⟩ hi ?_) | (refine k_loadR3 (cs := h.cells l.pt) rfl rfl hs hget ?_) | (refine k_allocA (vs := [.int .i64 0, .slice none 0 0, .slice none 0 0]) (fun g6 w2 hn2 => ⟨fun _ _ => trivial, ?_⟩)) | (refine k_pure rfl ?_) | (refine then_normal ?_) | (refine cw_seq ?_) | (refine cw_region rfl ?_) | (refine rr_nil ?_))
  refine k_storeV (n := 3) rfl rfl rfl rfl hn2.blk rfl (fun w3 hc3 hb3 => ⟨fun _ _ => trivial, ?_⟩)
  have hE3 : Ex w w3 := hn2.ex.chg hc3 hn2.lo
  repeat' (first | (refine k_loadC rfl hb3 rfl ?_) | (refine k_pure rfl ?_) | (refine then_normal ?_) | (refine cw_seq ?_) | (refine cw_region rfl ?_) | (refine rr_nil ?_) | (refine k_len rfl ?_) | (refine k_fieldAddr rfl ?_) | (refine cw_block ?_))
  refine cw_loop (ι := Nat) [4, 5, 7, 8, 10, 11, 12, 13, 21, 22, 23, 24, 25, 26, 27, 28, 29, 30, 31, 32, 33, 34, 35, 36, 37, 38, 39, 40, 41, 42, 43, 44, 45, 46, 47, 48, 49, 50, 51, 52, 53, 54, 55, 56, 57, 58, 59, 60, 61, 62] (fun s => [(21, .int .i64 (s : Int))])
    (fun s w' => s ≤ n ∧ Ex w3 w' ∧ ∀ z : Nat, z < s → (z : Int) ∈ l.orb → ∀ k, k < l.gens.length → (siftL ((lvsOf L).drop (i + 1)) (l.schr (l.orb.idxOf (z : Int)) k)).1 = idList n) (fun s => n - s)
    0 ⟨rfl, trivial⟩ ⟨Nat.zero_le _, Ex.refl _, fun z hz => absurd hz (by omega)⟩ ?_
  rintro x ξ w4 ⟨hx, hE4, hA⟩
  show CW _ _ _ _ (over [(21, .int .i64 (x : Int))] _) w4
  by_cases hxn : x < n
  · have hma4 := (hlv.ma.ext hE3).ext hE4
    by_cases hm : (x : Int) ∈ l.orb
    · obtain ⟨gx, cx, hsx, hSx⟩ := hlv.mp.inn x hm
      have hb4 := hb3.ext hE4
      have hio := idxOf_lt hm
      have pto : PermN n (l.to (x : Int)) := ok.grp.perm _ (ok.to_in hm)
      repeat' (first | (refine k_lssT rfl rfl (by omega) ?_) | (refine k_indexN (j := x) rfl rfl hpm (by omega) ?_) | (refine k_loadSd rfl hma4 (by omega) hsx ?_) | (refine k_eqNil rfl rfl ?_) | (refine k_loadC rfl hb4 rfl ?_) | (refine k_pure rfl ?_) | (refine then_normal ?_) | (refine cw_seq ?_) | (refine cw_region rfl ?_) | (refine rr_nil ?_) | (refine k_len rfl ?_) | (refine k_fieldAddr rfl ?_) | (refine cw_cond_true rfl ?_) | (refine cw_cond_false rfl ?_) | (refine cw_block ?_) | (refine cw_skip ?_))
      refine cw_loop (ι := Nat) [4, 5, 10, 11, 12, 13, 31, 32, 33, 34, 35, 36, 37, 38, 39, 40, 41, 42, 43, 44, 45, 46, 47, 48, 49, 50, 51, 52, 53, 54, 55, 56, 57, 58, 59, 60, 61] (fun s => [(31, .int .i64 (s : Int))])
        (fun s w' => s ≤ l.gens.length ∧ Ex w3 w' ∧ ∀ k, k < s → (siftL ((lvsOf L).drop (i + 1)) (l.schr (l.orb.idxOf (x : Int)) k)).1 = idList n) (fun s => l.gens.length - s)
        0 ⟨rfl, trivial⟩ ⟨Nat.zero_le _, hE4, fun z hz => absurd hz (by omega)⟩ ?_
      rintro k ξ2 w5 ⟨hk5, hE5, hA5⟩
      show CW _ _ _ _ (over [(31, .int .i64 (k : Int))] _) w5
      by_cases hkl : k < l.gens.length
      · have hE05 := hE3.trans hE5
        have hgL := hlv.gs.ext hE05
        obtain ⟨⟨sa, sl, sc⟩, hsd⟩ : ∃ s, h.gs.getD k sd0 = s := ⟨_, rfl⟩
        have hgP := ok.gens _ (getD_mem (d := []) hkl)
        obtain ⟨hsl, hsn⟩ := hlv.gs.each k hkl
        have hsch : l.schr (l.orb.idxOf (x : Int)) k = mulP (mulP (inv (l.to (x : Int))) (l.gens.getD k [])) (l.to (ap (l.gens.getD k []) (x : Int))) := by
          unfold Lv.schr; rw [idxOf_getD hm]; rfl
        have hyo : ap (l.gens.getD k []) (x : Int) ∈ l.orb := by
          rw [ok.mem]; exact .step _ (getD_mem hkl) ((ok.mem _).1 hm)
        have hgin := gen_self ok.gens (getD_mem (d := []) hkl)
        generalize hgk : l.gens.getD k [] = q at *
        rw [hsd] at hsl hsn
        simp only at hsl hsn
        have hql : q.length = n := hgP.2
        obtain rfl : sl = n := by omega
        have hyr := hgP.ap ⟨by omega, by omega⟩ (x := (x : Int))
        obtain ⟨y, hy'⟩ : ∃ m : Nat, q.getD x 0 = (m : Int) := ⟨(q.getD x 0).toNat, by unfold ap at hyr; rw [Int.toNat_natCast] at hyr; omega⟩
        have hap : ap q (x : Int) = (y : Int) := by unfold ap; rw [Int.toNat_natCast, hy']
        rw [hap] at hyo hsch
        have hyn : y < sl := by omega
        obtain ⟨gy, cy, hsy, hSy⟩ := hlv.mp.inn y hyo
        have pty : PermN sl (l.to (y : Int)) := ok.grp.perm _ (ok.to_in hyo)
        have hb5 := hb3.ext hE5
        repeat' (first | (refine k_lssT rfl rfl (by omega) ?_) | (refine k_indexN (j := k) rfl rfl (hgL.sl.plain (by simp; omega)) (by omega) ?_) | (refine k_loadSd rfl hgL.sl (by omega) hsd ?_) | (refine k_pure rfl ?_) | (refine then_normal ?_) | (refine cw_seq ?_) | (refine cw_region rfl ?_) | (refine rr_nil ?_) | (refine cw_cond_true rfl ?_) | (refine cw_block ?_) | (refine cw_skip ?_))
        refine cw_draw (late := []) (plan := [(0, none), (1, none), (3, none), (4, none), (5, none), (6, none), (7, none), (8, none), (9, none), (10, none), (2, some true), (11, some true), (12, some true), (13, none)]) (fun w' => Ex w3 w') mixed (by kernel_rfl) hE5.drew ?_
        have hE5d : Ex w3 w5.drew := hE5.drew
        have hE05d : Ex w w5.drew := hE05.drew
        repeat' (first | (refine k_loadC rfl (fun _ h => hb3.ext h) rfl ?_) | (refine k_indexN (j := x) (a := sa) (l := sl) (c := sc) rfl rfl (hsl.plain (by simp; omega)) (by omega) ?_) | (refine k_loadI (a := sa) rfl (fun _ h => hsl.ext (hE3.trans h)) (by omega) ?_) | (refine k_indexN (j := y) rfl (congrArg _ hy') hpm (by omega) ?_) | (refine k_loadSd rfl (fun _ h => hlv.ma.ext (hE3.trans h)) (by omega) hsy ?_) | (refine k_pure rfl ?_) | (refine k_fieldAddr rfl ?_))
        refine k_call (product_spec (xs := inv (l.to (x : Int))) (ys := q) (hSx.ext hE05d) (hsl.ext hE05d) cx sc (by have := pto.inv.2; omega) (fun z hz => by obtain ⟨j, hj, e⟩ := mem_iff_getD.1 hz; have := pto.inv.1.lt (k := j) hj; have := pto.inv.2; omega)) (by rw [pto.inv.2, hql]; rfl) ?_
        rintro v w6 ⟨b6, c6, rfl, hO6, hE6⟩
        refine ⟨fun _ h => h.trans hE6, ?_⟩
        rw [mulP_length, pto.inv.2] at hO6 ⊢
        have hi1 : invTo (inv (l.to (y : Int))) (inv (l.to (y : Int))).length = l.to (y : Int) := by rw [invTo_inv pty.inv, inv_inv pty]
        skip
        refine k_call (refInv_spec (xs := inv (l.to (y : Int))) (hSy.ext (hE05d.trans hE6)) cy pty.inv.1) (by rw [pty.inv.2]; rfl) ?_
        rw [hi1]
        rintro v w7 ⟨b7, c7, rfl, hO7, hE7⟩
        refine ⟨fun _ h => h.trans hE7, ?_⟩
        have pm := pto.inv.mul hgP
        have hml6 : (mulP (inv (l.to (x : Int))) q).length = sl := pm.2
        skip
        refine k_call (product_spec (xs := mulP (inv (l.to (x : Int))) q) (ys := l.to (y : Int)) (hO6.sl.ext hE7) hO7.sl c6 c7 (by omega) (fun z hz => by obtain ⟨j, hj, e⟩ := mem_iff_getD.1 hz; have := pm.1.lt (k := j) hj; have := pty.2; omega)) (by rw [hml6]; rfl) ?_
        rintro v w8 ⟨b8, c8, rfl, hO8, hE8⟩
        refine ⟨fun _ h => h.trans hE8, ?_⟩
        rw [mulP_length, hml6] at hO8 ⊢
        rw [← hsch] at hO8
        have psch : PermN sl (l.schr (l.orb.idxOf (x : Int)) k) := by rw [hsch]; exact pm.mul pty
        have hE08 : Ex w w8 := ((hE05d.trans hE6).trans hE7).trans hE8
        repeat' (first | (refine k_pure rfl ?_) | (refine then_normal ?_) | (refine cw_seq ?_) | (refine cw_region rfl ?_) | (refine rr_nil ?_) | (refine k_addI rfl rfl (by omega) (by omega) ?_))
        refine k_call (rsift_spec (first := i + 1) (cap := cap) (pc := c8) (hs.ext hE08) (hC.ext hE08) (fun j _ hj => hok j hj) (by omega) hk psch hO8.sl) rfl ?_
        rintro v w9 ⟨hE9, ra, rc, rfl, hR9, hfr⟩
        refine ⟨fun _ _ => trivial, ?_⟩
        have hsp : PermN sl (siftL ((lvsOf L).drop (i + 1)) (l.schr (l.orb.idxOf (x : Int)) k)).1 := siftL_perm (fun l' hl' => by
          obtain ⟨j, hj, e⟩ := List.getElem_of_mem (List.mem_of_mem_drop hl')
          have hj' : j < L.length := by simpa using hj
          have h2 := hok j hj'
          rw [← lvsOf_getD, List.getD_eq_getElem?_getD, List.getElem?_eq_getElem hj, e] at h2
          exact h2) psch
        have h9l := hsp.2
        obtain ⟨rg, ro, rfl⟩ := hR9.plain (by simp; omega)
        repeat' (first | (refine k_pure rfl ?_) | (refine then_normal ?_) | (refine cw_seq ?_) | (refine cw_region rfl ?_) | (refine rr_nil ?_))
        refine k_call (refMoved_spec (xs := (siftL ((lvsOf L).drop (i + 1)) (l.schr (l.orb.idxOf (x : Int)) k)).1) hR9 rc (by omega)) (by rw [h9l]; rfl) ?_
        rintro v w10 ⟨mv, rfl, hmv, hE10⟩
        refine ⟨fun _ _ => trivial, ?_⟩
        have hneg := hmv.neg
        rw [h9l] at hneg
        have hE510 : Ex w3 w10 := ((((hE5d.trans hE6).trans hE7).trans hE8).trans hE9).trans hE10
        repeat' (first | (refine k_pure rfl ?_) | (refine then_normal ?_) | (refine cw_seq ?_) | (refine cw_region rfl ?_) | (refine rr_nil ?_) | (refine k_addI rfl rfl (by omega) (by omega) ?_) | (refine cw_cond_dec rfl (fun hc => ?_) (fun hc => ?_)) | (refine in_normal ?_) | (refine cw_ret ?_) | (refine then_ret ?_) | (refine in_ret ?_) | (refine cw_skip ?_))
        · refine ret2 rfl (rt rfl) (rt rfl) ⟨hE3.trans hE510, .inl ⟨l.orb.idxOf (x : Int), k, _, rc, hio, hkl, rfl, hR9.ext hE10, fun e => ?_, ?_⟩⟩
          · have := hneg.2 e; omega
          · have s10 := hE10.size
            have s08 := hE08.size
            have s5 := hE05d.size
            have s6 := hE6.size
            have s7 := hE7.size
            have s9 := hE9.size
            rcases hfr with e | hf
            · have := hO8.lo _ e.symm
              omega
            · have := hf _ rfl
              omega
        · have hid := hneg.1 (by omega)
          refine ⟨⟨k + 1, ⟨by omega, hE510, fun k' hk' => ?_⟩, by omega, rfl, trivial⟩, (by (repeat (first | exact agree_mask _ _ _ | refine agree_upd rfl ?_ | refine agree_updO rfl ?_ | refine agree_overIn rfl ?_ | refine agree_maskIn rfl ?_)))⟩
          by_cases e : k' = k
          · rw [e]; exact hid
          · exact hA5 k' (by omega)
      · obtain rfl : k = l.gens.length := by omega
        repeat' (first | (refine k_lssF rfl rfl (by omega) ?_) | (refine k_pure rfl ?_) | (refine then_normal ?_) | (refine cw_seq ?_) | (refine cw_region rfl ?_) | (refine rr_nil ?_) | (refine k_addI rfl rfl (by omega) (by omega) ?_) | (refine cw_cond_false rfl ?_) | (refine cw_exit ?_) | (refine then_exit ?_) | (refine in_exit ?_) | (refine in_normal ?_))
        refine ⟨⟨x + 1, ⟨by omega, hE5, fun z hz hzm k' hk' => ?_⟩, by omega, rfl, trivial⟩, (by (repeat (first | exact agree_mask _ _ _ | refine agree_upd rfl ?_ | refine agree_updO rfl ?_ | refine agree_overIn rfl ?_ | refine agree_maskIn rfl ?_)))⟩
        by_cases e : z = x
        · subst e; exact hA5 k' hk'
        · exact hA z (by omega) hzm k' hk'
    · have hsx := hlv.mp.out x hxn hm
      repeat' (first | (refine k_lssT rfl rfl (by omega) ?_) | (refine k_indexN (j := x) rfl rfl hpm (by omega) ?_) | (refine k_loadSd rfl hma4 (by omega) hsx ?_) | (refine k_eqNil rfl rfl ?_) | (refine k_pure rfl ?_) | (refine then_normal ?_) | (refine cw_seq ?_) | (refine cw_region rfl ?_) | (refine rr_nil ?_) | (refine k_addI rfl rfl (by omega) (by omega) ?_) | (refine cw_cond_true rfl ?_) | (refine cw_block ?_) | (refine cw_exit ?_) | (refine then_exit ?_) | (refine in_exit ?_) | (refine cw_skip ?_))
      refine ⟨⟨x + 1, ⟨by omega, hE4, fun z hz hzm k' hk' => ?_⟩, by omega, rfl, trivial⟩, (by (repeat (first | exact agree_mask _ _ _ | refine agree_upd rfl ?_ | refine agree_updO rfl ?_ | refine agree_overIn rfl ?_ | refine agree_maskIn rfl ?_)))⟩
      by_cases e : z = x
      · subst e; exact absurd hzm hm
      · exact hA z (by omega) hzm k' hk'
  · obtain rfl : x = n := by omega
    repeat' (first | (refine k_lssF rfl rfl (by omega) ?_) | (refine k_pure rfl ?_) | (refine then_normal ?_) | (refine cw_seq ?_) | (refine cw_region rfl ?_) | (refine rr_nil ?_) | (refine cw_cond_false rfl ?_) | (refine cw_exit ?_) | (refine then_exit ?_) | (refine in_exit ?_) | (refine cw_ret ?_))
    refine ret2 rfl (rt rfl) (rt rfl) ⟨hE3.trans hE4, .inr ⟨rfl, fun b hb k' hk' => ?_⟩⟩
    have hbm : l.orb.getD b 0 ∈ l.orb := getD_mem hb
    have hbr := ok.orb_in hbm
    obtain ⟨z, hz⟩ : ∃ m : Nat, l.orb.getD b 0 = (m : Int) := ⟨(l.orb.getD b 0).toNat, by omega⟩
    have := hA z (by omega) (by rw [← hz]; exact hbm) k' hk'
    rwa [← hz, idxOf_nd ok.nd hb] at this
end Go.Proofs.YthhfjagnmhhapaaGreat

namespace Go.PM
theorem insR_of {n : Nat} {p : List Int} {x : Lv} : ∀ (d : Nat) (ls ls' : List Lv), d ≤ ls.length → ls'.length = (if d < ls.length then ls.length else ls.length + 1) →
    (∀ j, j ≤ d → j < ls.length → LvRe n p (ls.getD j x) (ls'.getD j x)) → (∀ j, d < j → j < ls.length → ls'.getD j x = ls.getD j x) → (d = ls.length → LvNew n p (ls'.getD d x)) → InsR n p d ls ls'
  | 0, [], ls', _, hl, _, _, hn => by
    match ls', hl with
    | [l'], _ => exact .new (hn rfl)
    | [], hl => simp at hl
    | _ :: _ :: _, hl => simp at hl
  | d + 1, [], _, h, _, _, _, _ => absurd h (by simp)
  | 0, l :: ls, ls', _, hl, h1, h2, _ => by
    match ls', hl with
    | [], hl => simp at hl
    | l' :: t, hl =>
      have e : t = ls := by
        simp at hl
        refine List.ext_getElem hl fun j hj hj' => ?_
        have := h2 (j + 1) (by omega) (by simpa using hj')
        simpa [List.getD_eq_getElem?_getD, hj, hj'] using this
      subst e
      exact .last (h1 0 (Nat.le_refl _) (by simp))
  | d + 1, l :: ls, ls', hd, hl, h1, h2, hn => by
    match ls', hl with
    | [], hl => simp at hl; split at hl <;> omega
    | l' :: t, hl =>
      refine .cons (h1 0 (by omega) (by simp)) (insR_of d ls t (by simpa using hd) ?_ (fun j hj hjl => h1 (j + 1) (by omega) (by simpa using hjl)) (fun j hj hjl => h2 (j + 1) (by omega) (by simpa using hjl)) (fun e => hn (by simp [e])))
      simp only [List.length_cons] at hl
      split at hl <;> split <;> omega
end Go.PM
namespace Go.W
theorem Lists.fr {F : Nat → Prop} {w w' : World} {k : IntKind} {a : Option Addr} {sds : List SD} {xss : List (List Int)} (h : Lists w k a sds xss) (f : Fr F w w') (h1 : ∀ ad, a = some ad → ¬ F ad.block) (h2 : ∀ i ad, (sds.getD i sd0).a = some ad → ¬ F ad.block) : Lists w' k a sds xss :=
  ⟨h.sl.fr f h1, h.len, fun i hi => ⟨(h.each i hi).1.fr f (h2 i), (h.each i hi).2⟩⟩
theorem Lists.snoc {w : World} {k : IntKind} {a a' : Option Addr} {sds : List SD} {xss : List (List Int)} (h : Lists w k a sds xss) {s : SD} {p : List Int} (ht : Sl w a' ((sds ++ [s]).map SD.val)) (hs : Sl w s.a (p.map (Value.int k))) (hl : s.len = p.length) : Lists w k a' (sds ++ [s]) (xss ++ [p]) := by
  have hle := h.len
  refine ⟨ht, by simp [hle], fun i hi => ?_⟩
  rw [List.length_append, List.length_singleton] at hi
  rw [getD_snoc (by omega), getD_snoc hi, hle]
  split
  · rename_i h1; exact h.each i h1
  · exact ⟨hs, hl⟩
end Go.W
namespace Go.Proofs.YthhfjagnmhhapaaGreat
open Go.W Go.PM
def RH.on (h : RH) (q : Nat) : Prop := (∃ ad, h.ga = some ad ∧ ad.block = q) ∨ (∃ k ad, (h.gs.getD k sd0).a = some ad ∧ ad.block = q) ∨ (∃ ad, h.ma = some ad ∧ ad.block = q) ∨ (∃ y ad, (h.ms.getD y sd0).a = some ad ∧ ad.block = q)
theorem RL.fr {w w' : World} {n x : Nat} {h : RH} {l : Lv} (hL : RL w n h l) (f : Fr (One x) w w') (hx : ¬ h.on x) : RL w' n h l :=
  ⟨hL.gs.fr f (fun ad e he => hx (.inl ⟨ad, e, he⟩)) (fun i ad e he => hx (.inr (.inl ⟨i, ad, e, he⟩))), hL.ma.fr f (fun ad e he => hx (.inr (.inr (.inl ⟨ad, e, he⟩)))),
    hL.mp.len, fun y hy => by
      obtain ⟨g, c, h1, h2⟩ := hL.mp.inn y hy
      exact ⟨g, c, h1, h2.fr f (fun ad e he => hx (.inr (.inr (.inr ⟨y, ad, by rw [h1]; exact e, he⟩))))⟩, hL.mp.out⟩
/-- a chain of the reference, in a slice of the call's own -/
structure RCh (w : World) (lo n : Nat) (a : Option Addr) (cap : Nat) (L : RC) : Prop where
  own : Own w lo 85 3 a L.length cap (cellsL L)
  lv : RCs w n L
  sep : ∀ j, j < L.length → ∀ q, (L.getD j rc0).1.on q → q < w.heap.size ∧ ∀ ad, a = some ad → ad.block ≠ q
theorem RCh.nil (w : World) (lo n : Nat) : RCh w lo n none 0 [] := ⟨Own.nil _ _ _ _, fun j hj => absurd hj (by simp), fun j hj => absurd hj (by simp)⟩
theorem RCh.ext {w w' : World} {lo n cap : Nat} {a : Option Addr} {L : RC} (h : RCh w lo n a cap L) (e : Ex w w') : RCh w' lo n a cap L :=
  ⟨h.own.ext e, h.lv.ext e, fun j hj q hq => ⟨by have := (h.sep j hj q hq).1; have := e.size; omega, (h.sep j hj q hq).2⟩⟩
theorem getD_setR {L : RC} {j i : Nat} {x : RH × Lv} (h : j < L.length) : (L.set j x).getD i rc0 = if j = i then x else L.getD i rc0 := by
  rw [List.getD_eq_getElem?_getD, List.getElem?_set]
  by_cases e : j = i
  · subst e; simp [h]
  · rw [if_neg e, if_neg e, List.getD_eq_getElem?_getD]
/-- one more level -/
theorem RCh.snoc {w w' : World} {lo n cap cap' : Nat} {a a' : Option Addr} {L : RC} {x : RH × Lv} (h : RCh w lo n a cap L) (hg : w.grownBy w' (Value.slice a L.length cap).ownBlock) (hA : a' = a ∨ ∀ y, a' = some y → w.heap.size ≤ y.block)
    (ho : Own w' lo 85 3 a' (L.length + 1) cap' (cellsL L ++ x.1.cells x.2.pt)) (hx : RL w n x.1 x.2) (hq : ∀ q, x.1.on q → q < w.heap.size ∧ ∀ ad, a = some ad → ad.block ≠ q) : RCh w' lo n a' cap' (L ++ [x]) := by
  have hget : ∀ j, j < L.length + 1 → (L ++ [x]).getD j rc0 = if j < L.length then L.getD j rc0 else x := fun j hj => getD_snoc hj
  have hall : ∀ j, j < L.length + 1 → RL w n ((L ++ [x]).getD j rc0).1 ((L ++ [x]).getD j rc0).2 ∧ ∀ q, ((L ++ [x]).getD j rc0).1.on q → q < w.heap.size ∧ ∀ ad, a = some ad → ad.block ≠ q := fun j hj => by
    rw [hget j hj]
    split
    · rename_i h1; exact ⟨h.lv j h1, h.sep j h1⟩
    · exact ⟨hx, hq⟩
  have hs := hg.size
  refine ⟨by rw [cellsL_snoc, List.length_append, List.length_singleton]; exact ho, fun j hj => ?_, fun j hj q hon => ?_⟩
  · rw [List.length_append, List.length_singleton] at hj
    obtain ⟨h1, h2⟩ := hall j hj
    cases ha : a with
    | none => exact h1.ext (grown_ex hg (Ex.refl _) (by rw [ha]; simp))
    | some ad => exact h1.fr (x := ad.block) (grown_fr hg (by rw [ha]; rintro k ⟨⟩; rfl)) fun hon => (h2 _ hon).2 ad ha rfl
  · rw [List.length_append, List.length_singleton] at hj
    obtain ⟨h3, h4⟩ := (hall j hj).2 q hon
    refine ⟨by omega, fun ad e => ?_⟩
    rcases hA with rfl | hA
    · exact h4 ad e
    · have := hA ad e; omega
/-- a level is replaced -/
theorem RCh.put {w w' : World} {lo n cap g j : Nat} {L : RC} {x : RH × Lv} (h : RCh w lo n (some ⟨g, 0, none⟩) cap L) (hc : Chg g w w') (hj : j < L.length)
    (ho : Own w' lo 85 3 (some ⟨g, 0, none⟩) L.length cap ((cellsL L).take (j * 3) ++ x.1.cells x.2.pt ++ (cellsL L).drop (j * 3 + 3))) (hx : RL w n x.1 x.2) (hq : ∀ q, x.1.on q → q < w.heap.size ∧ g ≠ q) : RCh w' lo n (some ⟨g, 0, none⟩) cap (L.set j x) := by
  rw [cellsL_set L j x hj] at ho
  have hs := hc.size
  have hall : ∀ i, i < L.length → RL w n ((L.set j x).getD i rc0).1 ((L.set j x).getD i rc0).2 ∧ ∀ q, ((L.set j x).getD i rc0).1.on q → q < w.heap.size ∧ g ≠ q := fun i hi => by
    rw [getD_setR hj]
    split
    · exact ⟨hx, hq⟩
    · exact ⟨h.lv i hi, fun q hon => ⟨(h.sep i hi q hon).1, (h.sep i hi q hon).2 _ rfl⟩⟩
  refine ⟨by rw [List.length_set]; exact ho, fun i hi => ?_, fun i hi q hon => ?_⟩
  · rw [List.length_set] at hi
    obtain ⟨h1, h2⟩ := hall i hi
    exact h1.fr (f1C hc) fun hon => (h2 _ hon).2 rfl
  · rw [List.length_set] at hi
    obtain ⟨h3, h4⟩ := (hall i hi).2 q hon
    exact ⟨by omega, by rintro _ ⟨⟩; exact h4⟩
set_option maxHeartbeats 1000000 in
theorem rextend_spec {w : World} {lo n first d : Nat} {L : RC} {a : Option Addr} {cap : Nat} {p : List Int} {pa : Addr} {pc : Nat} (hR : RCh w lo n a cap L) (hlo : lo ≤ w.heap.size) (hok : ∀ j, j < L.length → LvOK n (L.getD j rc0).2) (hfd : first + d ≤ L.length)
    (hk : L.length ≤ 1000000000) (hgl : ∀ j, j < L.length → (L.getD j rc0).2.gens.length ≤ 1000000000) (pp : PermN n p) (hne : p ≠ idList n) (hp : Sl w (some pa) (intsL p)) (hpa : ∀ ad, a = some ad → ad.block ≠ pa.block) (hpl : pa.block < w.heap.size) :
    CallsR Tryz.prog 44 #[.int .i64 (n : Int), .slice a L.length cap, .int .i64 ((first : Int) - 1), .int .i64 ((first + d : Nat) : Int), .slice (some pa) n pc] w fun v w' => ∃ (a' : Option Addr) (cap' : Nat) (L' : RC), v = .slice a' L'.length cap' ∧
      RCh w' lo n a' cap' L' ∧ Fr (fun q => ∃ ad, a = some ad ∧ ad.block = q) w w' ∧ InsR n p d ((lvsOf L).drop first) ((lvsOf L').drop first) ∧ (lvsOf L').take first = (lvsOf L).take first := by
  refine callsR_of (args := [_, _, _, _, _]) Tryz.func44 rfl rfl ?_
  have n1 := pp.n1
  have hpn := pp.2
  repeat' (first | (refine k_pure rfl ?_) | (refine then_normal ?_) | (refine cw_seq ?_) | (refine cw_region rfl ?_) | (refine rr_nil ?_) | (refine k_len rfl ?_))
  refine cw_join (ι := RC × Option Addr × Nat) [1, 17, 18, 19, 20, 21, 22, 23] (fun s => [(1, .slice s.2.1 s.1.length s.2.2)])
    (fun s w' => RCh w' lo n s.2.1 s.2.2 s.1 ∧ Fr (fun q => ∃ ad, a = some ad ∧ ad.block = q) w w' ∧ (∀ ad, s.2.1 = some ad → ad.block < w.heap.size → ∃ ad', a = some ad' ∧ ad'.block = ad.block) ∧ (∀ ad, s.2.1 = some ad → ad.block ≠ pa.block) ∧
      ((first + d < L.length ∧ s.1 = L) ∨ (first + d = L.length ∧ ∃ x, s.1 = L ++ [x] ∧ LvOK n x.2 ∧ x.2.gens = [] ∧ ap p x.2.pt ≠ x.2.pt))) ?_ ?_
  · repeat' (first | (refine k_pure rfl ?_) | (refine then_normal ?_) | (refine cw_region rfl ?_) | (refine cw_cond_dec rfl (fun hc => ?_) (fun hc => ?_)) | (refine cw_skip ?_))
    · have hat : first + d = L.length := by omega
      refine k_call (refMoved_spec (xs := p) hp pc (by omega)) (by rw [hpn]; rfl) ?_
      rintro v w2 ⟨mv, rfl, hmv, hE2⟩
      refine ⟨fun _ _ => trivial, ?_⟩
      have hmv' : 0 ≤ mv ∧ mv < n ∧ ap p mv ≠ mv := by
        rcases hmv with ⟨_, h⟩ | h
        · rw [hpn] at h; exact absurd h hne
        · rw [hpn] at h; exact h
      skip
      refine k_call (rlevel_spec (w := w2) (gens := []) (ga := none) (gs := []) 0 n1 ⟨hmv'.1, hmv'.2.1⟩ (fun g hg => absurd hg (by simp)) (Lists.nil _ _ _) (by simp)) rfl ?_
      rintro v w3 ⟨hE3, m, ms, l, rfl, hRL, okl, hpt, hgn, _, hm1, hm2⟩
      refine ⟨fun _ _ => trivial, ?_⟩
      have hE23 := hE2.trans hE3
      have s2 := hE2.size
      have s3 := hE3.size
      have hR3 := hR.ext hE23
      refine k_app1 (s := 3) (v := .agg ((⟨none, [], 0, ba m, ms, n⟩ : RH).cells mv).toArray) rfl rfl rfl rfl rfl rfl hR3.own (by omega) (by omega) (by omega) (fun g4 a4 c4 w4 ho4 hg4 hA4 => ?_)
      repeat' (first | (refine k_pure rfl ?_) | (refine then_normal ?_) | (refine rr_nil ?_))
      have hon : ∀ q, (⟨none, [], 0, ba m, ms, n⟩ : RH).on q → w2.heap.size ≤ q ∧ q < w3.heap.size := by
        rintro q (⟨ad, h1, _⟩ | ⟨k, ad, h1, _⟩ | ⟨ad, h1, h2⟩ | ⟨y, ad, h1, h2⟩)
        · cases h1
        · cases h1
        · obtain rfl := Option.some.inj h1; simp only at h2; omega
        · have := hm2 y ad h1; omega
      refine ⟨⟨(L ++ [(⟨none, [], 0, ba m, ms, n⟩, l)], a4, c4), ⟨hR3.snoc (x := (⟨none, [], 0, ba m, ms, n⟩, l)) hg4 hA4 (by simp only; rw [hpt]; exact ho4) hRL (fun q hq => ?_), ?_, ?_, ?_, .inr ⟨hat, _, rfl, okl, hgn, by simp only; rw [hpt]; exact hmv'.2.2⟩⟩, ?_, trivial⟩, (by (repeat (first | exact agree_refl _ _ | refine agree_upd rfl ?_ | refine agree_updO rfl ?_ | refine agree_overIn rfl ?_ | refine agree_maskIn rfl ?_)))⟩
      · have := hon q hq
        refine ⟨this.2, fun ad e => ?_⟩
        have := (hR.own.lo ad e).2
        omega
      · refine Fr.then (Ex.fr hE23) (grown_fr (F := fun q => ∃ ad, a = some ad ∧ ad.block = q) hg4 ?_) (fun _ _ h => h)
        cases ha : a with
        | none => intro k hk; cases hk
        | some ad => intro k hk; cases hk; exact ⟨ad, rfl, rfl⟩
      · intro ad e hlt
        rcases hA4 with rfl | hA4
        · exact ⟨ad, e, rfl⟩
        · have := hA4 ad e; omega
      · intro ad e
        rcases hA4 with rfl | hA4
        · exact hpa ad e
        · have := hA4 ad e; omega
      · show Value.slice a4 (L.length + 1) c4 = .slice a4 (L ++ [_]).length c4
        rw [List.length_append, List.length_singleton]
    · refine ⟨⟨(L, a, cap), ⟨hR, Fr.refl _ _, fun ad e _ => ⟨ad, e, rfl⟩, hpa, .inl ⟨by omega, rfl⟩⟩, rfl, trivial⟩, (by (repeat (first | exact agree_refl _ _ | refine agree_upd rfl ?_ | refine agree_updO rfl ?_ | refine agree_overIn rfl ?_ | refine agree_maskIn rfl ?_)))⟩
  · rintro ⟨L0, a0, cap0⟩ ξ w1 ⟨hR0, hF0, hA0, hP0, hcase⟩
    simp only at hR0 hF0 hA0 hP0 hcase
    show CW _ _ _ _ (over [(1, .slice a0 L0.length cap0)] _) w1
    have hlen0 : first + d < L0.length ∧ L0.length ≤ L.length + 1 := by
      rcases hcase with ⟨h1, rfl⟩ | ⟨h1, x, rfl, _⟩
      · omega
      · rw [List.length_append, List.length_singleton]; omega
    have hold : ∀ j, j < L.length → L0.getD j rc0 = L.getD j rc0 := fun j hj => by
      rcases hcase with ⟨_, rfl⟩ | ⟨_, x, rfl, _⟩
      · rfl
      · rw [getD_snoc (by omega), if_pos hj]
    have hok0 : ∀ j, j < L0.length → LvOK n (L0.getD j rc0).2 ∧ (L0.getD j rc0).2.gens.length ≤ 1000000000 := fun j hj => by
      by_cases hjl : j < L.length
      · rw [hold j hjl]; exact ⟨hok j hjl, hgl j hjl⟩
      · rcases hcase with ⟨_, rfl⟩ | ⟨_, x, rfl, h2, h3, _⟩
        · exact absurd hj hjl
        · rw [getD_snoc (by rw [List.length_append, List.length_singleton] at hj; exact hj), if_neg hjl, h3]
          exact ⟨h2, by simp⟩
    obtain ⟨g0, rfl⟩ := hR0.own.baPos (by omega)
    have hP0' : g0 ≠ pa.block := hP0 _ rfl
    have hg0 : g0 < w1.heap.size := (hR0.own.lo _ rfl).2
    have hlo1 : lo ≤ g0 := (hR0.own.lo _ rfl).1
    have s1 := hF0.size
    have hp1 : Sl w1 (some pa) (intsL p) := hp.fr hF0 (by rintro _ ⟨⟩ ⟨ad, h1, h2⟩; exact hpa ad h1 h2)
    repeat' (first | (refine k_pure rfl ?_) | (refine then_normal ?_) | (refine cw_seq ?_) | (refine cw_region rfl ?_) | (refine rr_nil ?_) | (refine k_addI rfl rfl (by omega) (by omega) ?_) | (refine cw_block ?_))
    refine cw_loop (ι := Nat × RC) [11, 12, 26, 27, 28, 29, 30, 31, 32, 33, 34, 35, 36, 37, 38, 39, 40, 41, 42, 43, 44, 45, 46, 47, 48, 49, 50] (fun s => [(11, .int .i64 (s.1 : Int))])
      (fun s w' => first ≤ s.1 ∧ s.1 ≤ first + d + 1 ∧ s.2.length = L0.length ∧ RCh w' lo n (ba g0) cap0 s.2 ∧ Fr (fun q => ∃ ad, a = some ad ∧ ad.block = q) w w' ∧ w1.heap.size ≤ w'.heap.size ∧ Sl w' (some pa) (intsL p) ∧
        (∀ j, j < L0.length → (first ≤ j ∧ j < s.1 → LvRe n p (L0.getD j rc0).2 (s.2.getD j rc0).2) ∧ (¬ (first ≤ j ∧ j < s.1) → s.2.getD j rc0 = L0.getD j rc0))) (fun s => first + d + 1 - s.1)
      (first, L0) ⟨by show Value.int .i64 ((first : Int) - 1 + 1) = _; rw [show (first : Int) - 1 + 1 = (first : Int) by omega], trivial⟩ ⟨Nat.le_refl _, by simp only; omega, rfl, hR0, hF0, Nat.le_refl _, hp1, fun j hj => ⟨fun h => by simp only at h; omega, fun _ => rfl⟩⟩ ?_
    rintro ⟨k, L1⟩ ξ2 w2 ⟨hk1, hk2, hl1, hR1, hF1, s12, hp2, hall⟩
    simp only at hk1 hk2 hl1 hR1 hall
    show CW _ _ _ _ (over [(11, .int .i64 (k : Int))] _) w2
    by_cases hkd : k ≤ first + d
    · have hkl : k < L1.length := by omega
      obtain ⟨ok, hgln⟩ := hok0 k (by omega)
      have hsame := (hall k (by omega)).2 (by omega)
      have hc3 := fun w' (h : Ex w2 w') => cell3 (hR1.own.sl.ext h) hkl
      have hlv := hR1.lv k hkl
      have hsepk := hR1.sep k hkl
      rw [hsame] at hc3 hlv hsepk
      generalize hhl : L0.getD k rc0 = hl at *
      obtain ⟨h, l⟩ := hl
      simp only at ok hgln hc3 hlv hsepk
      have hgsl := hlv.gs.sl
      have hgle := hlv.gs.len
      repeat' (first | (refine k_leqT rfl rfl (by omega) ?_) | (refine k_index3 (j := k) rfl rfl ⟨_, _, rfl⟩ (by omega) ?_) | (refine k_load rfl (hc3 _ (Ex.refl _)).2.1 ?_) | (refine k_pure rfl ?_) | (refine then_normal ?_) | (refine cw_seq ?_) | (refine cw_region rfl ?_) | (refine rr_nil ?_) | (refine k_fieldAddr rfl ?_) | (refine cw_cond_true rfl ?_) | (refine cw_block ?_) | (refine cw_skip ?_))
      refine k_copy (E := 43) (news := h.gs.map SD.val) rfl rfl rfl hgsl (by simp) (all_one (fun s => rfl) _) (by omega) (by omega) (fun a3 c3 w3 ho3 hE3 => ⟨fun _ _ => trivial, ?_⟩)
      have s3 := hE3.size
      repeat' (first | (refine k_pure rfl ?_))
      refine k_app1S rfl rfl rfl rfl ho3 (by omega) (by omega) s3 (fun g4 a4 c4 w4 ho4 hg4 hA4 => ?_)
      have hE4 : Ex w2 w4 := ho3.grow_ex hg4 hE3 (Nat.le_refl _)
      have s4 := hE4.size
      have hLg : Lists w4 .i64 a4 (h.gs ++ [⟨some pa, n, pc⟩]) (l.gens ++ [p]) := (hlv.gs.ext hE4).snoc ho4.sl (hp2.ext hE4) hpn.symm
      repeat' (first | (refine k_index3 (j := k) rfl rfl ⟨_, _, rfl⟩ (by omega) ?_) | (refine k_load rfl (hc3 _ hE4).1 ?_) | (refine k_pure rfl ?_) | (refine then_normal ?_) | (refine cw_region rfl ?_) | (refine rr_nil ?_) | (refine k_fieldAddr rfl ?_))
      have hgN : GensN n (l.gens ++ [p]) := fun q hq => by
        rw [List.mem_append, List.mem_singleton] at hq
        rcases hq with hq | rfl
        · exact ok.gens q hq
        · exact pp
      refine k_call (rlevel_spec (w := w4) c4 n1 ok.pt hgN hLg (by rw [List.length_append, List.length_singleton]; omega)) (by rw [List.length_append, List.length_singleton]; rfl) ?_
      rintro v w5 ⟨hE5, m, ms, l', rfl, hRL, okl, hpt, hgn, hdn, hm1, hm2⟩
      refine ⟨fun _ _ => trivial, ?_⟩
      have s5 := hE5.size
      have hR5 := (hR1.ext hE4).ext hE5
      repeat' (first | (refine k_index3 (j := k) rfl rfl ⟨_, _, rfl⟩ (by omega) ?_) | (refine k_storeOwn3 (j := k) (cs := (⟨a4, h.gs ++ [⟨some pa, n, pc⟩], c4, ba m, ms, n⟩ : RH).cells l.pt) rfl rfl rfl rfl hR5.own (by omega) (fun g6 w6 hgg _ hc6 ho6 => ⟨fun _ _ => trivial, ?_⟩)) | (refine k_pure rfl ?_) | (refine then_normal ?_) | (refine cw_region rfl ?_) | (refine rr_nil ?_) | (refine k_addI rfl rfl (by omega) (by omega) ?_) | (refine in_normal ?_))
      obtain rfl : g0 = g6 := by simpa using hgg
      have hon : ∀ q, (⟨a4, h.gs ++ [⟨some pa, n, pc⟩], c4, ba m, ms, n⟩ : RH).on q → q < w5.heap.size ∧ g0 ≠ q := by
        rintro q (⟨ad, h1, h2⟩ | ⟨j, ad, h1, h2⟩ | ⟨ad, h1, h2⟩ | ⟨y, ad, h1, h2⟩)
        · have := ho4.lo ad h1; omega
        · have h1' : ((h.gs ++ [(⟨some pa, n, pc⟩ : SD)]).getD j sd0).a = some ad := h1
          by_cases hj : j < h.gs.length + 1
          · rw [getD_snoc hj] at h1'
            split at h1'
            · have := hsepk q (.inr (.inl ⟨j, ad, h1', h2⟩))
              exact ⟨by omega, this.2 _ rfl⟩
            · simp only [Option.some.injEq] at h1'
              subst h1'
              subst h2
              exact ⟨by omega, hP0'⟩
          · rw [List.getD_eq_getElem?_getD, List.getElem?_eq_none (by rw [List.length_append, List.length_singleton]; omega)] at h1'
            cases h1'
        · obtain rfl := Option.some.inj h1; simp only at h2; omega
        · have := hm2 y ad h1; omega
      have s6 := hc6.size
      refine ⟨⟨(k + 1, L1.set k (⟨a4, h.gs ++ [⟨some pa, n, pc⟩], c4, ba m, ms, n⟩, l')), ⟨by simp only; omega, by simp only; omega, by simp only; rw [List.length_set]; exact hl1, hR5.put hc6 hkl (by simp only; rw [hpt]; exact ho6) hRL hon, ?_, by omega, ?_, fun j hj => ?_⟩, by simp only; omega, rfl, trivial⟩, (by (repeat (first | exact agree_mask _ _ _ | refine agree_upd rfl ?_ | refine agree_updO rfl ?_ | refine agree_overIn rfl ?_ | refine agree_maskIn rfl ?_)))⟩
      · refine Fr.then (hF1.trans (Ex.fr (hE4.trans hE5))) (f1C hc6) (fun q hq e => ?_)
        have e' : q = g0 := e
        subst e'
        exact hA0 _ rfl hq
      · exact ((hp2.ext hE4).ext hE5).chg hc6 (by rintro _ ⟨⟩; exact Ne.symm hP0')
      · simp only
        rw [getD_setR hkl]
        by_cases e : k = j
        · subst e
          rw [if_pos rfl, hhl]
          exact ⟨fun _ => ⟨okl, hpt, hgn, hdn⟩, fun h => absurd ⟨hk1, Nat.lt_succ_self _⟩ h⟩
        · rw [if_neg e]
          exact ⟨fun h => (hall j hj).1 (by omega), fun h => (hall j hj).2 (by omega)⟩
    · obtain rfl : k = first + d + 1 := by omega
      repeat' (first | (refine k_leqF rfl rfl (by omega) ?_) | (refine k_pure rfl ?_) | (refine then_normal ?_) | (refine cw_seq ?_) | (refine cw_region rfl ?_) | (refine rr_nil ?_) | (refine cw_cond_false rfl ?_) | (refine cw_exit ?_) | (refine then_exit ?_) | (refine in_exit ?_) | (refine cw_ret ?_))
      have hlL : ∀ j, (lvsOf L).getD j lv0 = (L.getD j rc0).2 := lvsOf_getD L
      have hlL1 : ∀ j, (lvsOf L1).getD j lv0 = (L1.getD j rc0).2 := lvsOf_getD L1
      have hdr : ∀ (M : RC) (j : Nat), ((lvsOf M).drop first).getD j lv0 = (M.getD (first + j) rc0).2 := fun M j => by rw [← lvsOf_getD, List.getD_eq_getElem?_getD, List.getElem?_drop, ← List.getD_eq_getElem?_getD]
      have hL0l : L0.length = if first + d < L.length then L.length else L.length + 1 := by
        rcases hcase with ⟨h1, rfl⟩ | ⟨h1, x, rfl, _⟩
        · rw [if_pos h1]
        · rw [if_neg (by omega), List.length_append, List.length_singleton]
      have hLL : L.length ≤ L0.length := by rw [hL0l]; split <;> omega
      refine ret1 rfl (rt rfl) ⟨ba g0, cap0, L1, by rw [hl1]; rfl, hR1, hF1, insR_of (x := lv0) d _ _ ?_ ?_ (fun j hj hjl => ?_) (fun j hj hjl => ?_) (fun e => ?_), ?_⟩
      · rw [List.length_drop, List.length_map]; omega
      · rw [List.length_drop, List.length_drop, List.length_map, List.length_map, hl1, hL0l]; split <;> split <;> omega
      · rw [List.length_drop, List.length_map] at hjl
        rw [hdr, hdr, ← hold (first + j) (by omega)]
        exact (hall (first + j) (by omega)).1 ⟨by omega, by omega⟩
      · rw [List.length_drop, List.length_map] at hjl
        rw [hdr, hdr, (hall (first + j) (by omega)).2 (by omega), hold (first + j) (by omega)]
      · rw [List.length_drop, List.length_map] at e
        rcases hcase with ⟨h1, rfl⟩ | ⟨h1, x, rfl, h2, h3, h4⟩
        · omega
        · have hre := (hall (first + d) (by rw [List.length_append, List.length_singleton]; omega)).1 ⟨by omega, by omega⟩
          rw [hdr]
          have e0 : (L ++ [x]).getD (first + d) rc0 = x := by rw [getD_snoc (by omega), if_neg (by omega)]
          rw [e0] at hre
          exact ⟨hre.ok, by rw [hre.gens, h3]; rfl, by rw [hre.pt]; exact h4, hre.new⟩
      · refine List.ext_getElem (by rw [List.length_take, List.length_take, List.length_map, List.length_map, hl1, hL0l]; split <;> omega) fun j hj hj' => ?_
        rw [List.length_take, List.length_map] at hj hj'
        have h1 := (hall j (by omega)).2 (by omega)
        rw [hold j (by omega)] at h1
        have h2 : (lvsOf L1).getD j lv0 = (lvsOf L).getD j lv0 := by rw [hlL, hlL1, h1]
        rw [List.getD_eq_getElem?_getD, List.getD_eq_getElem?_getD, List.getElem?_eq_getElem (by rw [List.length_map]; omega), List.getElem?_eq_getElem (by rw [List.length_map]; omega)] at h2
        rw [List.getElem_take, List.getElem_take]
        exact h2
end Go.Proofs.YthhfjagnmhhapaaGreat

/- Rows of bits in words. No program in sight. -/
namespace Go.PM
def bitsW (ws : List Nat) : Nat → Bool := fun i => (ws.getD (i / 64) 0).testBit (i % 64)
def xorW (ws us : List Nat) : Nat → List Nat
  | 0 => ws
  | k + 1 => (xorW ws us k).set k (ws.getD k 0 ^^^ us.getD k 0)
theorem xorW_len (ws us : List Nat) : ∀ k, (xorW ws us k).length = ws.length
  | 0 => rfl
  | k + 1 => by rw [xorW, List.length_set, xorW_len ws us k]
theorem xorW_getD (ws us : List Nat) : ∀ k, k ≤ ws.length → ∀ i, (xorW ws us k).getD i 0 = if i < k then ws.getD i 0 ^^^ us.getD i 0 else ws.getD i 0
  | 0, _, i => by rw [if_neg (by omega)]; rfl
  | k + 1, hk, i => by
    rw [xorW, List.getD_eq_getElem?_getD, List.getElem?_set, xorW_len]
    by_cases e : k = i
    · subst e; rw [if_pos rfl, if_pos (by omega), if_pos (by omega)]; rfl
    · rw [if_neg e, ← List.getD_eq_getElem?_getD, xorW_getD ws us k (by omega) i]
      by_cases h : i < k
      · rw [if_pos h, if_pos (by omega)]
      · rw [if_neg h, if_neg (by omega)]
theorem bits_xor {ws us : List Nat} (h : ws.length = 4) (h' : us.length = 4) : bitsW (xorW ws us 4) = vx (bitsW ws) (bitsW us) := by
  funext i
  show ((xorW ws us 4).getD (i / 64) 0).testBit (i % 64) = ((ws.getD (i / 64) 0).testBit (i % 64) ^^ (us.getD (i / 64) 0).testBit (i % 64))
  rw [xorW_getD ws us 4 (by omega)]
  by_cases hi : i / 64 < 4
  · rw [if_pos hi, Nat.testBit_xor]
  · rw [if_neg hi]
    have e1 : ws.getD (i / 64) 0 = 0 := by rw [List.getD_eq_getElem?_getD, List.getElem?_eq_none (by omega)]; rfl
    have e2 : us.getD (i / 64) 0 = 0 := by rw [List.getD_eq_getElem?_getD, List.getElem?_eq_none (by omega)]; rfl
    rw [e1, e2]; simp
theorem bits_big {ws : List Nat} (h : ws.length = 4) {i : Nat} (hi : 256 ≤ i) : bitsW ws i = false := by
  unfold bitsW
  have e1 : ws.getD (i / 64) 0 = 0 := by rw [List.getD_eq_getElem?_getD, List.getElem?_eq_none (by omega)]; rfl
  rw [e1]; simp
theorem bits_zero : bitsW (List.replicate 4 0) = v0 := by
  funext i
  unfold bitsW v0
  rw [List.getD_eq_getElem?_getD, List.getElem?_replicate]; split <;> simp
/-- flipping bit o -/
def flipW (ws : List Nat) (o : Nat) : List Nat := ws.set (o / 64) (ws.getD (o / 64) 0 ^^^ (1 <<< (o % 64)))
theorem flipW_len (ws : List Nat) (o : Nat) : (flipW ws o).length = ws.length := by simp [flipW]
theorem bits_flip {ws : List Nat} {o : Nat} (h : o / 64 < ws.length) (i : Nat) : bitsW (flipW ws o) i = (bitsW ws i ^^ decide (i = o)) := by
  unfold bitsW flipW
  rw [List.getD_eq_getElem?_getD, List.getElem?_set]
  by_cases e : o / 64 = i / 64
  · rw [if_pos e, if_pos h]
    simp only [Option.getD_some]
    rw [Nat.testBit_xor, e, Nat.one_shiftLeft, Nat.testBit_two_pow]
    congr 1
    by_cases e2 : i = o
    · subst e2; simp
    · have : o % 64 ≠ i % 64 := by omega
      simp [e2, this]
  · rw [if_neg e, ← List.getD_eq_getElem?_getD]
    have : i ≠ o := by rintro rfl; exact e rfl
    simp [this]
theorem Ech.congr {B B' : List (Nat → Bool)} (h : Ech B) (he : ∀ b, b ∈ B ↔ b ∈ B') : Ech B' := by
  intro v hv
  rcases h v (Sp.mono (fun b hb => (he b).2 hb) hv) with h1 | ⟨b, hb, r⟩
  · exact .inl h1
  · exact .inr ⟨b, (he b).1 hb, r⟩
theorem lead_vx {v u : Nat → Bool} {i : Nat} (h : Lead v i) (h' : Lead u i) : ∀ j, i ≤ j → vx v u j = false := by
  intro j hj
  unfold vx
  by_cases e : j = i
  · subst e; rw [h.1, h'.1]; rfl
  · rw [h.2 j (by omega), h'.2 j (by omega)]; rfl
end Go.PM

namespace Go.W
theorem findK_no {k : Int} : ∀ {l : List (Int × Value)} {i : Nat}, findK k l i = none → ∀ p ∈ l, p.1 ≠ k
  | [], _, _, p, hp => by simp at hp
  | q :: l, i, h, p, hp => by
    rw [findK] at h
    split at h
    · simp at h
    · rename_i hq
      rcases List.mem_cons.1 hp with rfl | hp
      · exact hq
      · exact findK_no h p hp
theorem findK_yes {k : Int} : ∀ {l : List (Int × Value)} {i j : Nat} {v : Value}, findK k l i = some (j, v) → (k, v) ∈ l
  | [], _, _, _, h => by simp [findK] at h
  | q :: l, i, j, v, h => by
    rw [findK] at h
    split at h
    · rename_i hq
      simp only [Option.some.injEq, Prod.mk.injEq] at h
      obtain ⟨_, rfl⟩ := h
      rw [← hq]; exact List.mem_cons_self
    · exact List.mem_cons_of_mem _ (findK_yes h)
end Go.W
namespace Go.PM
def W4 (ws : List Nat) : Prop := ws.length = 4 ∧ ∀ i, ws.getD i 0 < 18446744073709551616
theorem W4.xor {ws us : List Nat} (h : W4 ws) (h' : W4 us) : W4 (xorW ws us 4) := by
  refine ⟨by rw [xorW_len]; exact h.1, fun i => ?_⟩
  rw [xorW_getD ws us 4 (by rw [h.1]; omega)]
  split
  · exact Nat.xor_lt_two_pow (n := 64) (h.2 i) (h'.2 i)
  · exact h.2 i
theorem bit_and {m i : Nat} : (m >>> i &&& 1 = 1) ↔ m.testBit i = true := by
  rw [Nat.and_one_is_mod, Nat.shiftRight_eq_div_pow, Nat.testBit_eq_decide_div_mod_eq]; simp
end Go.PM
namespace Go.Proofs.YthhfjagnmhhapaaGreat
open Go.W Go.PM
theorem leading_spec {ws : List Nat} {w : World} (hw : W4 ws) : CallsR Tryz.prog 110 #[.agg (wordsL ws).toArray] w fun v w' => ((v = .int .i64 (-1) ∧ bitsW ws = v0) ∨ ∃ i : Nat, i < 256 ∧ v = .int .i64 (i : Int) ∧ Lead (bitsW ws) i) ∧ Ex w w' := by
  refine callsR_of (args := [_]) Tryz.func110 rfl rfl ?_
  have hl := hw.1
  repeat' (first | (refine k_boxA rfl (fun g w1 hn1 => ⟨fun _ _ => trivial, ?_⟩)) | (refine k_pure rfl ?_) | (refine then_normal ?_) | (refine cw_seq ?_) | (refine cw_region rfl ?_) | (refine rr_nil ?_) | (refine cw_block ?_))
  refine cw_loop (ι := Nat) [2, 3, 4, 5, 6, 7, 8, 9, 10, 11, 12, 13, 14, 15, 16, 17] (fun s => [(3, .int .i64 ((s : Int) - 1))]) (fun s w' => s ≤ 256 ∧ Ex w w' ∧ Blk w' g 155 (wordsL ws) ∧ ∀ j, s ≤ j → bitsW ws j = false) (fun s => s)
    256 ⟨rfl, trivial⟩ ⟨Nat.le_refl _, hn1.ex, hn1.blk, fun j hj => bits_big hl hj⟩ ?_
  rintro k ξ w2 ⟨hk, hE2, hb2, hz⟩
  show CW _ _ _ _ (over [(3, .int .i64 ((k : Int) - 1))] _) w2
  repeat' (first | (refine k_pure rfl ?_) | (refine then_normal ?_) | (refine cw_seq ?_) | (refine cw_region rfl ?_) | (refine rr_nil ?_) | (refine cw_cond_dec rfl (fun hc => ?_) (fun hc => ?_)) | (refine cw_block ?_) | (refine cw_exit ?_) | (refine then_exit ?_) | (refine in_exit ?_) | (refine cw_ret ?_) | (refine cw_skip ?_))
  · obtain ⟨i, rfl⟩ : ∃ i, k = i + 1 := ⟨k - 1, by omega⟩
    have ei : ((i + 1 : Nat) : Int) - 1 = (i : Int) := by omega
    rw [ei] at *
    obtain ⟨q, hq⟩ : ∃ q, q = i / 64 := ⟨_, rfl⟩
    have hq' : (i : Int) / 64 = (q : Int) := by omega
    obtain ⟨r, hr⟩ : ∃ r, r = i % 64 := ⟨_, rfl⟩
    have hr' : (i : Int) % 64 = (r : Int) := by omega
    have hwq := hw.2 q
    repeat' (first | (refine k_quoI rfl rfl (by omega) (by omega) (by omega) ?_) | (refine k_indexA1 (j := q) rfl (congrArg _ hq') (by omega) ?_) | (refine k_loadN (j := q) rfl hb2.sl (by omega) ?_) | (refine k_rem rfl rfl (by omega) (by omega) ?_) | (refine k_shrN (j := r) rfl (congrArg _ hr') (.inr (by show r ≤ 64; omega)) ?_) | (refine k_andN (m' := 1) rfl rfl rfl (Nat.lt_of_le_of_lt (Nat.shiftRight_le ..) hwq) (by decide) ?_) | (refine k_pure rfl ?_) | (refine then_normal ?_) | (refine cw_seq ?_) | (refine cw_region rfl ?_) | (refine rr_nil ?_) | (refine k_subI rfl rfl (by omega) (by omega) ?_) | (refine cw_cond_dec rfl (fun hc => ?_) (fun hc => ?_)) | (refine in_normal ?_) | (refine cw_ret ?_) | (refine then_ret ?_) | (refine in_ret ?_) | (refine cw_skip ?_))
    · have hb : bitsW ws i = true := by
        unfold bitsW; rw [← hq, ← hr]; exact bit_and.1 (by omega)
      refine ret1 rfl (rt rfl) ⟨.inr ⟨i, by omega, rfl, hb, fun j hj => hz j (by omega)⟩, hE2⟩
    · have hb : bitsW ws i = false := by
        cases hbb : bitsW ws i with
        | false => rfl
        | true =>
          exfalso
          unfold bitsW at hbb
          rw [← hq, ← hr] at hbb
          have := bit_and.2 hbb
          omega
      refine ⟨⟨i, ⟨by omega, hE2, hb2, fun j hj => ?_⟩, by omega, rfl, trivial⟩, (by (repeat (first | exact agree_mask _ _ _ | refine agree_upd rfl ?_ | refine agree_updO rfl ?_ | refine agree_overIn rfl ?_ | refine agree_maskIn rfl ?_)))⟩
      by_cases e : j = i
      · subst e; exact hb
      · exact hz j (by omega)
  · obtain rfl : k = 0 := by omega
    refine ret1 rfl (rt rfl) ⟨.inl ⟨rfl, ?_⟩, hE2⟩
    funext j; exact hz j (Nat.zero_le _)
theorem plus_spec {ws us : List Nat} {w : World} (hw : W4 ws) (hu : W4 us) : CallsR Tryz.prog 111 #[.agg (wordsL ws).toArray, .agg (wordsL us).toArray] w fun v w' => v = .agg (wordsL (xorW ws us 4)).toArray ∧ Ex w w' := by
  refine callsR_of (args := [_, _]) Tryz.func111 rfl rfl ?_
  have hl := hw.1
  have hl' := hu.1
  repeat' (first | (refine k_boxA (vs := wordsL ws) rfl (fun g w1 hn1 => ⟨fun _ _ => trivial, ?_⟩)) | (refine k_boxA (vs := wordsL us) rfl (fun g2 w2 hn2 => ⟨fun _ _ => trivial, ?_⟩)) | (refine k_allocA (vs := wordsL [0, 0, 0, 0]) (fun g3 w3 hn3 => ⟨fun _ _ => trivial, ?_⟩)) | (refine then_normal ?_) | (refine cw_seq ?_) | (refine cw_region rfl ?_) | (refine rr_nil ?_))
  have hb2 := hn2.blk.ext hn3.ex
  have hb1 := (hn1.blk.ext hn2.ex).ext hn3.ex
  have hE3 : Ex w w3 := (hn1.ex.trans hn2.ex).trans hn3.ex
  have z1 := hn1.lo; have z1' := hn1.hi; have z2 := hn2.lo; have z2' := hn2.hi; have z3 := hn3.lo; have z3' := hn3.hi
  have y1 := hn1.ex.size; have y2 := hn2.ex.size
  repeat' (first | (refine k_loadCA rfl hb2 (by simp [hl']) ?_) | (refine k_pure rfl ?_) | (refine then_normal ?_) | (refine rr_nil ?_) | (refine cw_block ?_))
  refine cw_loop (ι := Nat) [5, 6, 8, 9, 10, 11, 12, 13, 14, 15, 16, 17, 18] (fun s => [(8, .int .i64 (s : Int))]) (fun s w' => s ≤ 4 ∧ Ex w w' ∧ Blk w' g 155 (wordsL (xorW ws us s)) ∧ Blk w' g3 155 (wordsL [0, 0, 0, 0])) (fun s => 4 - s)
    0 ⟨rfl, trivial⟩ ⟨Nat.zero_le _, hE3, hb1, hn3.blk⟩ ?_
  rintro k ξ w4 ⟨hk, hE4, hb4, hb4'⟩
  show CW _ _ _ _ (over [(8, .int .i64 (k : Int))] _) w4
  have hxl := xorW_len ws us k
  have hgu : k < 4 → (wordsL us)[k]? = some (.int .u64 ((us.getD k 0 : Nat) : Int)) := fun h => by
    unfold wordsL; rw [List.getElem?_map, List.getD_eq_getElem?_getD, List.getElem?_eq_getElem (by omega)]; rfl
  have hgx : (xorW ws us k).getD k 0 = ws.getD k 0 := by
    by_cases h : k ≤ ws.length
    · rw [xorW_getD ws us k h, if_neg (Nat.lt_irrefl _)]
    · omega
  repeat' (first | (refine k_indexV (j := k) rfl rfl (by omega) (hgu (by omega)) ?_) | (refine k_indexA1 (j := k) rfl rfl (by omega) ?_) | (refine k_loadN (j := k) rfl hb4.sl (by omega) ?_) | (refine k_xorN rfl rfl rfl (by rw [hgx]; exact hw.2 k) (hu.2 k) ?_) | (refine k_storeN (j := k) rfl rfl hb4 (by omega) (fun w5 hc5 hb5 => ⟨fun _ _ => trivial, ?_⟩)) | (refine k_pure rfl ?_) | (refine then_normal ?_) | (refine cw_seq ?_) | (refine cw_region rfl ?_) | (refine rr_nil ?_) | (refine k_addI rfl rfl (by omega) (by omega) ?_) | (refine cw_cond_dec rfl (fun hc => ?_) (fun hc => ?_)) | (refine cw_block ?_) | (refine cw_exit ?_) | (refine then_exit ?_) | (refine in_exit ?_) | (refine in_normal ?_) | (refine cw_skip ?_))
  · refine ⟨⟨k + 1, ⟨by omega, hE4.chg hc5 z1, ?_, hb4'.chg hc5 (by omega)⟩, by omega, rfl, trivial⟩, (by (repeat (first | exact agree_mask _ _ _ | refine agree_upd rfl ?_ | refine agree_updO rfl ?_ | refine agree_overIn rfl ?_ | refine agree_maskIn rfl ?_)))⟩
    rw [xorW, ← hgx]; exact hb5
  · obtain rfl : k = 4 := by omega
    repeat' (first | (refine k_loadCA rfl hb4 (by simp [hxl, hl]) ?_) | (refine k_storeV rfl rfl (by simp [hxl, hl]) (all_one (fun _ => rfl) _) hb4' rfl (fun w5 hc5 hb5 => ⟨fun _ _ => trivial, ?_⟩)) | (refine then_normal ?_) | (refine rr_nil ?_) | (refine cw_ret ?_))
    exact ret1 rfl (rc rfl (by simp [hxl, hl]) hb5) ⟨rfl, hE4.chg hc5 (by omega)⟩
end Go.Proofs.YthhfjagnmhhapaaGreat

