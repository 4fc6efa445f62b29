
import Derived.Test.YthhfjagnmhhapaaGreatE01
import Derived.Test.YthhfjagnmhhapaaGreatE02
import Derived.Test.YthhfjagnmhhapaaGreatE03
import Derived.Test.YthhfjagnmhhapaaGreatE04
import Derived.Test.YthhfjagnmhhapaaGreatE05

namespace Go.Proofs.YthhfjagnmhhapaaGreat
open Go.W Go.PM
theorem whereL_one {n pt : Nat} (h : pt < n) : (List.replicate n (-1 : Int)).set pt 0 = whereL n [(pt : Int)] := by
  apply List.ext_getElem?
  intro i
  rw [List.getElem?_set]
  by_cases e : pt = i
  · subst e
    rw [if_pos rfl, if_pos (by simpa using h)]
    have := whereL_getD (n := n) [(pt : Int)] h
    rw [List.getD_eq_getElem?_getD, List.getElem?_eq_getElem (by rw [whereL_len]; exact h), Option.getD_some] at this
    rw [List.getElem?_eq_getElem (by rw [whereL_len]; exact h), this]
    simp [whereAt]
  · rw [if_neg e, List.getElem?_replicate]
    by_cases hi : i < n
    · have h1 := whereL_getD (n := n) [(pt : Int)] hi
      rw [List.getD_eq_getElem?_getD, List.getElem?_eq_getElem (by rw [whereL_len]; exact hi), Option.getD_some] at h1
      rw [if_pos hi, List.getElem?_eq_getElem (by rw [whereL_len]; exact hi), h1]
      have : ¬ (i : Int) = pt := by omega
      simp [whereAt, this]
    · rw [if_neg hi, List.getElem?_eq_none (by rw [whereL_len]; omega)]
theorem newLv_spec {n pt : Nat} {gens : List (List Int)} {ga : Option Addr} {gc : Nat} {gs : List SD} {im : List Nat} {w : World} (h1 : 1 ≤ n ∧ n ≤ 512) (hpt : pt < n) (hgn : GensN n gens) (hga : Sl w ga (gs.map SD.val)) (hgs : PsAt w n im gs gens)
    (hgim : ∀ ad, ga = some ad → ad.block ∈ im) (himlt : ∀ g, g ∈ im → g < w.heap.size) (hcap : gens.length ≤ gc) (hgl : gens.length ≤ 1000000000000) :
    CallsR Tryz.prog 49 #[.int .i64 (n : Int), .int .i64 (pt : Int), .slice ga gens.length gc] w fun v w' => ∃ h' l', v = .pointer (some ⟨h'.blk, 0, none⟩) ∧ LvAt w' n h' l' ∧ LvOK n l' ∧ l'.pt = pt ∧ l'.gens = gens ∧ (∀ a, l'.done.getD a 0 = 0) ∧ Ex w w' ∧
      (∀ q, q ∈ h'.F → w.heap.size ≤ q) ∧ (∀ q, q ∈ h'.im → q ∈ im ∨ w.heap.size ≤ q) ∧ h'.ga = ga ∧ h'.gc = gens.length ∧ h'.gs = gs := by
  refine callsR_of (args := [_, _, _]) Tryz.func49 rfl rfl ?_
  repeat' (first | (refine k_pure rfl ?_) | (refine then_normal ?_) | (refine cw_seq ?_) | (refine cw_region rfl ?_) | (refine rr_nil ?_))
  have hEx : Ex w w.drew := (Ex.refl w).drew
  refine cw_join (ι := Nat × Nat) [7, 9, 10, 11, 12, 13, 14, 15] (fun s => [(7, .pointer (some ⟨s.1, 0, none⟩))])
    (fun s w' => Ex w w' ∧ w.heap.size ≤ s.1 ∧ w.heap.size ≤ s.2 ∧ s.1 ≠ s.2 ∧ Blk w' s.2 3 (intsL (List.replicate n 0)) ∧ Blk w' s.1 64 [.int .i64 (pt : Int), .slice ga gens.length gens.length, .slice none 0 0, .slice (ba s.2) n n, .slice none 0 0, .slice none 0 0]) ?_ ?_
  refine cw_tree (fun w' => Ex w w') mixed hEx ?_
  refine rb_pre (fuel := 5) (by kernel_rfl) (by kernel_rfl) [0, 1, 3] _ _ (by kernel_rfl) ?_
  repeat' (first | (refine k_pure rfl ?_) | (refine rr_nil ?_))
  refine rb_all (fuel := 4) (rs := [2, 4]) (by kernel_rfl) (by kernel_rfl) rfl ?_
  simp only [List.forall_mem_cons, List.not_mem_nil, false_implies, implies_true, and_true]
  refine ⟨?_, ?_⟩
  · refine k_call (clip_spec hcap) rfl ?_
    rintro v w0 ⟨rfl, rfl⟩
    refine ⟨fun _ h => h, ?_⟩
    refine rr_nil ?_
    refine rb_all (fuel := 3) (rs := [4]) (by kernel_rfl) (by kernel_rfl) rfl ?_
    rw [List.forall_mem_singleton]
    refine k_makeI rfl rfl (by omega) (by omega) (fun wb w1 hn1 => ⟨fun _ h => h.trans hn1.ex, ?_⟩)
    replace hn1 := hn1
    refine rr_nil ?_
    refine rb_pre (fuel := 2) (by kernel_rfl) (by kernel_rfl) [5] _ _ (by kernel_rfl) ?_
    repeat' (first | (refine k_build (cs := [.int .i64 (pt : Int), .slice ga gens.length gens.length, .slice none 0 0, .slice (ba wb) n n, .slice none 0 0, .slice none 0 0]) rfl ?_) | (refine rr_nil ?_))
    refine rb_all (fuel := 1) (rs := [6]) (by kernel_rfl) (by kernel_rfl) rfl ?_
    rw [List.forall_mem_singleton]
    refine k_boxA rfl (fun nb w2 hn2 => ⟨fun _ h => h.trans hn2.ex, ?_⟩)
    refine rr_nil ?_
    refine rb_pre (fuel := 0) (by kernel_rfl) (by kernel_rfl) [7] _ _ (by kernel_rfl) ?_
    repeat' (first | (refine k_pure rfl ?_) | (refine rr_nil ?_))
    refine rb_done (by kernel_rfl) ?_
    have s1 := hn1.hi
    have s2 := hn2.lo
    exact then_normal ⟨⟨(nb, wb), ⟨(hEx.trans hn1.ex).trans hn2.ex, Nat.le_trans (hEx.trans hn1.ex).size hn2.lo, Nat.le_trans hEx.size hn1.lo, by simp only; omega, hn1.blk.ext hn2.ex, hn2.blk⟩, rfl, trivial⟩, (by (repeat (first | exact agree_refl _ _ | refine agree_upd rfl ?_ | refine agree_updO rfl ?_ | refine agree_overIn rfl ?_ | refine agree_maskIn rfl ?_)))⟩
  · refine k_makeI rfl rfl (by omega) (by omega) (fun wb w1 hn1 => ⟨fun _ h => h.trans hn1.ex, ?_⟩)
    replace hn1 := hn1
    refine rr_nil ?_
    refine rb_all (fuel := 3) (rs := [2]) (by kernel_rfl) (by kernel_rfl) rfl ?_
    rw [List.forall_mem_singleton]
    refine k_call (clip_spec hcap) rfl ?_
    rintro v w0 ⟨rfl, rfl⟩
    refine ⟨fun _ h => h, ?_⟩
    refine rr_nil ?_
    refine rb_pre (fuel := 2) (by kernel_rfl) (by kernel_rfl) [5] _ _ (by kernel_rfl) ?_
    repeat' (first | (refine k_build (cs := [.int .i64 (pt : Int), .slice ga gens.length gens.length, .slice none 0 0, .slice (ba wb) n n, .slice none 0 0, .slice none 0 0]) rfl ?_) | (refine rr_nil ?_))
    refine rb_all (fuel := 1) (rs := [6]) (by kernel_rfl) (by kernel_rfl) rfl ?_
    rw [List.forall_mem_singleton]
    refine k_boxA rfl (fun nb w2 hn2 => ⟨fun _ h => h.trans hn2.ex, ?_⟩)
    refine rr_nil ?_
    refine rb_pre (fuel := 0) (by kernel_rfl) (by kernel_rfl) [7] _ _ (by kernel_rfl) ?_
    repeat' (first | (refine k_pure rfl ?_) | (refine rr_nil ?_))
    refine rb_done (by kernel_rfl) ?_
    have s1 := hn1.hi
    have s2 := hn2.lo
    exact then_normal ⟨⟨(nb, wb), ⟨(hEx.trans hn1.ex).trans hn2.ex, Nat.le_trans (hEx.trans hn1.ex).size hn2.lo, Nat.le_trans hEx.size hn1.lo, by simp only; omega, hn1.blk.ext hn2.ex, hn2.blk⟩, rfl, trivial⟩, (by (repeat (first | exact agree_refl _ _ | refine agree_upd rfl ?_ | refine agree_updO rfl ?_ | refine agree_overIn rfl ?_ | refine agree_maskIn rfl ?_)))⟩
  rintro ⟨nb, wb⟩ ξ w1 ⟨hE1, hnb, hwb, hne, hw1, hs1⟩
  simp only at hnb hwb hne hw1 hs1
  show CW _ _ _ _ (over [(7, .pointer (some ⟨nb, 0, none⟩))] _) w1
  repeat' (first | (refine k_loadC rfl hs1 rfl ?_) | (refine k_pure rfl ?_) | (refine then_normal ?_) | (refine cw_seq ?_) | (refine cw_region rfl ?_) | (refine rr_nil ?_) | (refine k_len rfl ?_) | (refine k_fieldAddr rfl ?_) | (refine cw_block ?_))
  refine cw_loop (ι := Nat × List Int) [8, 21, 22, 23, 24, 25, 26, 27, 28, 29, 30] (fun s => [(21, .int .i64 (s.1 : Int))]) (fun s w' => s.1 ≤ n ∧ Ex w w' ∧ Blk w' nb 64 [.int .i64 (pt : Int), .slice ga gens.length gens.length, .slice none 0 0, .slice (ba wb) n n, .slice none 0 0, .slice none 0 0] ∧ Blk w' wb 3 (intsL s.2) ∧ s.2.length = n ∧ s.2.take s.1 = List.replicate s.1 (-1)) (fun s => n - s.1)
    (0, List.replicate n 0) ⟨rfl, trivial⟩ ⟨Nat.zero_le _, hE1, hs1, hw1, by simp, rfl⟩ ?_
  rintro ⟨k, cur⟩ ξ2 w2 ⟨hk, hE2, hs2, hw2, hl2, hT⟩
  simp only at hk hw2 hl2 hT
  show CW _ _ _ _ (over [(21, .int .i64 (k : Int))] _) w2
  repeat' (first | (refine k_loadC rfl hs2 rfl ?_) | (refine k_indexN rfl rfl ⟨_, _, rfl⟩ (by omega) ?_) | (refine k_storeI rfl rfl hw2 (by omega) (fun w3 hc3 hb3 => ⟨fun _ _ => trivial, ?_⟩)) | (refine k_pure rfl ?_) | (refine then_normal ?_) | (refine cw_seq ?_) | (refine cw_region rfl ?_) | (refine rr_nil ?_) | (refine k_addI rfl rfl (by omega) (by omega) ?_) | (refine k_fieldAddr rfl ?_) | (refine cw_cond_dec rfl (fun hc => ?_) (fun hc => ?_)) | (refine cw_block ?_) | (refine cw_exit ?_) | (refine then_exit ?_) | (refine in_exit ?_) | (refine in_normal ?_) | (refine cw_skip ?_))
  · refine ⟨⟨(k + 1, cur.set k (-1)), ⟨by simp only; omega, hE2.chg hc3 hwb, hs2.chg hc3 hne, hb3, by simp [hl2], ?_⟩, by simp only; omega, rfl, trivial⟩, (by (repeat (first | exact agree_mask _ _ _ | refine agree_upd rfl ?_ | refine agree_updO rfl ?_ | refine agree_overIn rfl ?_ | refine agree_maskIn rfl ?_)))⟩
    simp only
    rw [take_set_succ (by omega), hT, List.replicate_succ']
  · obtain rfl : k = n := by omega
    rw [List.take_of_length_le (by omega)] at hT
    subst hT
    repeat' (first | (refine k_lit1 (v := .int .i64 (pt : Int)) rfl rfl (fun ob w4 hn4 => ⟨fun _ _ => trivial, ?_⟩)) | (refine k_storeC rfl rfl rfl ((hs2.chg hc3 hne).ext hn4.ex) rfl (fun w5 hc5 hb5 => ⟨fun _ _ => trivial, ?_⟩)) | (refine k_pure rfl ?_) | (refine then_normal ?_) | (refine cw_seq ?_) | (refine cw_region rfl ?_) | (refine rr_nil ?_) | (refine k_fieldAddr rfl ?_))
    rw [whereL_one hpt] at hb3
    have hE3 := hE2.chg hc3 hwb
    have hE4 := hE3.trans hn4.ex
    have hE5 := hE4.chg hc5 hnb
    refine k_call (ident_spec h1.2 _) rfl ?_
    rintro v w6 ⟨pb, rfl, hpb, hb6, hE6⟩
    refine ⟨fun _ _ => trivial, ?_⟩
    rw [idList_length] at *
    repeat' (first | (refine k_lit1 (v := .slice (ba pb) k k) rfl rfl (fun bb w7 hn7 => ⟨fun _ _ => trivial, ?_⟩)) | (refine k_storeC rfl rfl rfl ((hb5.ext hE6).ext hn7.ex) rfl (fun w8 hc8 hb8 => ⟨fun _ _ => trivial, ?_⟩)) | (refine k_lit1 (v := .int .i64 0) rfl rfl (fun db w9 hn9 => ⟨fun _ _ => trivial, ?_⟩)) | (refine k_storeC rfl rfl rfl (hb8.ext hn9.ex) rfl (fun w10 hc10 hb10 => ⟨fun _ _ => trivial, ?_⟩)) | (refine k_pure rfl ?_) | (refine then_normal ?_) | (refine cw_seq ?_) | (refine cw_region rfl ?_) | (refine rr_nil ?_) | (refine k_fieldAddr rfl ?_))
    have f34 : Fr (One nb) w3 w4 := hn4.ex.fr
    have f45 := f1C hc5
    have f56 : Fr (One nb) w5 w6 := hE6.fr
    have f67 : Fr (One nb) w6 w7 := hn7.ex.fr
    have f78 := f1C hc8
    have f89 : Fr (One nb) w8 w9 := hn9.ex.fr
    have f9 := f1C hc10
    have F7 : Fr (One nb) w7 w10 := f78.trans (f89.trans f9)
    have F4 : Fr (One nb) w4 w10 := f45.trans (f56.trans (f67.trans F7))
    have F3 : Fr (One nb) w3 w10 := f34.trans F4
    have F6 : Fr (One nb) w6 w10 := f67.trans F7
    have s4 := hn4.lo; have s4' := hn4.hi; have s7 := hn7.lo; have s7' := hn7.hi; have s9 := hn9.lo; have s9' := hn9.hi
    have z03 := hE3.size; have z45 := f45.size; have z56 := f56.size; have z67 := f67.size; have z78 := f78.size; have z89 := f89.size; have z9 := f9.size; have z34 := f34.size
    have pb6 := hb6.lt
    have wb3 := hb3.lt
    have nb3 := (hs2.chg hc3 hne).lt
    have hE10 : Ex w w10 := (((hE5.trans hE6).trans hn7.ex).chg hc8 hnb |>.trans hn9.ex).chg hc10 hnb
    have hwh := Blk.f1 hb3 F3 (Ne.symm hne)
    have hor := Blk.f1 hn4.blk F4 (by omega)
    have hbk := Blk.f1 hn7.blk F7 (by omega)
    have hdn := Blk.f1 hn9.blk f9 (by omega)
    have hpm := Blk.f1 hb6 F6 (by omega)
    have hL0 : LvAt w10 k ⟨nb, ob, 1, wb, bb, 1, [⟨ba pb, k, k⟩], db, 1, ga, gens.length, gs, pb :: im⟩ (Lv.one k pt gens) := by
      refine ⟨hb10, hor.own rfl (show 1 ≤ maxLen by decide) (Nat.zero_le _), hwh, hbk.own rfl (show 1 ≤ maxLen by decide) (Nat.zero_le _), ?_, hdn.own rfl (show 1 ≤ maxLen by decide) (Nat.zero_le _), hga.ext hE10, fun ad e => List.mem_cons_of_mem _ (hgim ad e), (hgs.ext hE10).mono fun q hq => List.mem_cons_of_mem _ hq, ?_, ?_, ?_, Nat.le_refl _⟩
      · have h0 : PsAt w10 k (pb :: im) [] [] := ⟨rfl, fun i hi => absurd hi (by simp), fun i hi => absurd hi (by simp), fun i hi => absurd hi (by simp)⟩
        exact h0.snoc (s := ⟨ba pb, k, k⟩) hpm.sl rfl (by rintro _ ⟨⟩; simp)
      · simp only [LH.F, List.mem_cons, List.not_mem_nil, or_false, List.nodup_cons, not_or, not_false_eq_true, and_true, List.nodup_nil]
        refine ⟨⟨?_, ?_, ?_, ?_⟩, ⟨?_, ?_, ?_⟩, ⟨?_, ?_⟩, ?_⟩ <;> omega
      · intro q hq hq'
        simp only [LH.F, List.mem_cons, List.not_mem_nil, or_false] at hq hq'
        rcases hq' with rfl | hq'
        · omega
        · have := himlt q hq'; omega
      · intro q hq
        simp only [List.mem_cons] at hq
        rcases hq with rfl | hq
        · omega
        · have := himlt q hq; omega
    refine k_call (extend_spec hL0 (part_one h1 (by omega) hgn) hgl) rfl ?_
    rintro v w11 ⟨rfl, h6, l6, hL6, ok6, gr6, fr6, st6⟩
    refine ⟨fun _ _ => trivial, ?_⟩
    repeat' (first | (refine k_pure rfl ?_) | (refine then_normal ?_) | (refine cw_seq ?_) | (refine cw_region rfl ?_) | (refine rr_nil ?_) | (refine cw_ret ?_))
    have hb6' := st6.blk
    simp only at hb6'
    refine ret1 rfl (rt rfl) ⟨h6, l6, by rw [hb6']; rfl, hL6, ok6, gr6.pt, gr6.gens, gr6.new, ?_, fun q hq => ?_, fun q hq => ?_, st6.ga, st6.gc, st6.gs⟩
    · refine Fr.ex hE10 fr6 fun q hq => ?_
      simp only [LH.F, List.mem_cons, List.not_mem_nil, or_false] at hq
      omega
    · rcases st6.F q hq with hq | hq
      · simp only [LH.F, List.mem_cons, List.not_mem_nil, or_false] at hq
        omega
      · omega
    · rcases st6.im q hq with hq | hq
      · simp only [List.mem_cons] at hq
        rcases hq with rfl | hq
        · exact .inr (by omega)
        · exact .inl hq
      · exact .inr (by omega)
end Go.Proofs.YthhfjagnmhhapaaGreat

namespace Go.W
section
variable {P : Program} {S : World → Prop} {ops : List Oper} {K : Env → World → Prop} {rest : List (Oper × Option Bool)} {ρ : Env} {w : World} {b : Option Bool} {kf : Bool} {d : Nat} {dst : Option Nat} {T T' : TypeId} {pos : String} {af : Array Edge}
theorem k_loadL {x : Operand} {T1 : TypeId} {a : Option Addr} {j : Nat} {v : Value} {vs : List Value} [Scal P T1] (hx : ev ρ x = .pointer (some (elt a j))) (hs : Rd b S w fun w' => Sl w' a vs) (hv : vs[j]? = some v)
    (h : RR P S ops K rest (upd ρ d v) w) : RR P S ops K ((⟨some d, .load T1 x, T, pos, af, none⟩, b) :: rest) ρ w :=
  k_load hx (hs.imp fun w' hs => by
    have hj : j < vs.length := (List.getElem?_eq_some_iff.1 hv).1
    rw [hs.get j hj, List.getD_eq_getElem?_getD, hv]; rfl) h
theorem k_lenMap {x : Operand} {r Kt E : Nat} {l : List (Int × Value)} (hm : P.underlying T' = some (.map Kt E)) (hx : ev ρ x = .map (some r)) (hs : MapAt w r l)
    (h : RR P S ops K rest (upd ρ d (.int .i64 (l.length : Int))) w) : RR P S ops K ((⟨some d, .call ⟨.builtin .len, #[x], #[T']⟩, T, pos, af, none⟩, some kf) :: rest) ρ w := by
  refine rr_eff rfl ?_
  unfold OpW
  obtain ⟨es, c, hb, he⟩ := hs
  have hl : es.size = l.length := by have := congrArg List.length he; simpa using this
  have : (execOp (ev ρ) ⟨some d, .call ⟨.builtin .len, #[x], #[T']⟩, T, pos, af, none⟩).run P w = .ok (.value (.int .i64 (l.length : Int))) w := by
    simp [execOp, resolve, invoke, builtin, Builtin.len_, hx, underlying, hm, goInt, run_getObj' hb, hl]
  rw [this]
  exact ⟨fun _ h => h, h⟩
end
end Go.W
namespace Go.Proofs.YthhfjagnmhhapaaGreat
open Go.W Go.PM
def MapOK (m : List (Int × Value)) (k : Nat) (f : Nat → Nat) : Prop := m.length = k ∧ (m.map Prod.fst).Nodup ∧ (∀ i, i < k → ((i : Int), Value.pointer (some ⟨f i, 0, none⟩)) ∈ m) ∧ ∀ p, p ∈ m → p.1 < k
theorem MapOK.find {m : List (Int × Value)} {k : Nat} {f : Nat → Nat} (h : MapOK m k f) {i : Nat} (hi : i < k) : ∃ j, j < m.length ∧ findK i m 0 = some (j, .pointer (some ⟨f i, 0, none⟩)) ∧ m[j]? = some ((i : Int), .pointer (some ⟨f i, 0, none⟩)) := by
  obtain ⟨j, hj, e⟩ := List.getElem_of_mem (h.2.2.1 i hi)
  have e' : m[j]? = some ((i : Int), Value.pointer (some ⟨f i, 0, none⟩)) := by rw [List.getElem?_eq_getElem hj, e]
  refine ⟨j, hj, ?_, e'⟩
  have := findK_at 0 j e' fun j' p hlt hp hk => by
    have hj' : j' < m.length := by omega
    have h1 : (m.map Prod.fst)[j']'(by simpa using hj') = (m.map Prod.fst)[j]'(by simpa using hj) := by
      rw [List.getElem_map, List.getElem_map, e]
      rw [List.getElem?_eq_getElem hj'] at hp
      injection hp with hp
      rw [hp]; exact hk
    have := (List.getElem_inj h.2.1).1 h1
    omega
  rwa [Nat.zero_add] at this
theorem getElem?_erase_ne {α : Type} {l : List α} {x y : α} {j : Nat} (hj : l[j]? = some y) (hx : x ∈ l) (hne : x ≠ y) : x ∈ l.eraseIdx j := by
  obtain ⟨i, hi, e⟩ := List.getElem_of_mem hx
  rw [List.mem_eraseIdx_iff_getElem]
  refine ⟨i, hi, ?_, e⟩
  rintro rfl
  rw [List.getElem?_eq_getElem hi] at hj
  injection hj with hj
  exact hne (e.symm.trans hj)
theorem MapOK.put {m : List (Int × Value)} {k : Nat} {f : Nat → Nat} (h : MapOK m k f) {i j : Nat} {v : Value} (hi : i < k) (hj : m[j]? = some ((i : Int), v)) (b : Nat) :
    MapOK (m.eraseIdx j ++ [((i : Int), .pointer (some ⟨b, 0, none⟩))]) k (fun x => if x = i then b else f x) ∧ ∀ p, p ∈ m.eraseIdx j → p.1 ≠ i := by
  have hjl : j < m.length := (List.getElem?_eq_some_iff.1 hj).1
  have hne : ∀ p, p ∈ m.eraseIdx j → p.1 ≠ i := by
    intro p hp hk
    obtain ⟨x, hx, hxj, e⟩ := List.mem_eraseIdx_iff_getElem.1 hp
    have h1 : (m.map Prod.fst)[x]'(by simpa using hx) = (m.map Prod.fst)[j]'(by simpa using hjl) := by
      rw [List.getElem_map, List.getElem_map, e]
      rw [List.getElem?_eq_getElem hjl] at hj
      injection hj with hj
      rw [hj]; exact hk
    exact hxj ((List.getElem_inj h.2.1).1 h1)
  refine ⟨⟨?_, ?_, fun x hx => ?_, fun p hp => ?_⟩, hne⟩
  · rw [List.length_append, List.length_eraseIdx, if_pos hjl, List.length_singleton]; have := h.1; omega
  · rw [List.map_append, List.nodup_append]
    refine ⟨?_, by simp, ?_⟩
    · rw [eraseIdx_map']; exact List.Nodup.eraseIdx _ h.2.1
    · intro a ha b' hb'
      simp only [List.map_cons, List.map_nil, List.mem_singleton] at hb'
      obtain ⟨p, hp, rfl⟩ := List.mem_map.1 ha
      rw [hb']; exact hne p hp
  · rw [List.mem_append]
    by_cases e : x = i
    · subst e; right; simp
    · left; simp only [if_neg e]
      refine getElem?_erase_ne hj (h.2.2.1 x hx) ?_
      intro e'; injection e' with e'; omega
  · rw [List.mem_append] at hp
    rcases hp with hp | hp
    · exact h.2.2.2 p (List.mem_of_mem_eraseIdx hp)
    · rw [List.mem_singleton] at hp; subst hp; simp only; omega
theorem MapOK.add {m : List (Int × Value)} {k : Nat} {f : Nat → Nat} (h : MapOK m k f) (b : Nat) :
    MapOK (m ++ [((k : Int), .pointer (some ⟨b, 0, none⟩))]) (k + 1) (fun x => if x = k then b else f x) ∧ ∀ p, p ∈ m → p.1 ≠ k := by
  have hne : ∀ p, p ∈ m → p.1 ≠ k := fun p hp e => by have := h.2.2.2 p hp; omega
  refine ⟨⟨by simp [h.1], ?_, fun x hx => ?_, fun p hp => ?_⟩, hne⟩
  · rw [List.map_append, List.nodup_append]
    refine ⟨h.2.1, by simp, ?_⟩
    intro a ha b' hb'
    simp only [List.map_cons, List.map_nil, List.mem_singleton] at hb'
    obtain ⟨p, hp, rfl⟩ := List.mem_map.1 ha
    rw [hb']; exact hne p hp
  · rw [List.mem_append]
    by_cases e : x = k
    · subst e; right; simp
    · left; simp only [if_neg e]; exact h.2.2.1 x (by omega)
  · rw [List.mem_append] at hp
    rcases hp with hp | hp
    · have := h.2.2.2 p hp; omega
    · rw [List.mem_singleton] at hp; subst hp; simp only; omega
/-- where a chain lies -/
structure CH where
  cb : Nat
  mb : Nat
  va : Option Addr
  vc : Nat
  m : List (Int × Value)
  hs : Nat → LH
  st : Nat
def chL (n k : Nat) (c : CH) : List Value := [.int .i64 (n : Int), .map (some c.mb), .slice c.va k c.vc, .int .u64 (c.st : Int)]
def dvV (h : LH) : Value := .func (.func 67) #[.pointer (some ⟨h.blk, 0, none⟩)] #[]
def lv0 : Lv := ⟨0, [], [], [], []⟩
structure ChAt (w : World) (n : Nat) (c : CH) (ls : List Lv) : Prop where
  str : Blk w c.cb 62 (chL n ls.length c)
  st : c.st < 18446744073709551616
  map : MapAt w c.mb c.m
  mok : MapOK c.m ls.length (fun i => (c.hs i).blk)
  dv : Own w 0 114 1 c.va ls.length c.vc ((List.range ls.length).map fun i => dvV (c.hs i))
  lv : ∀ i, i < ls.length → LvAt w n (c.hs i) (ls.getD i lv0)
  cmb : c.cb ≠ c.mb
  vne : ∀ ad, c.va = some ad → ad.block ≠ c.cb ∧ ad.block ≠ c.mb
  fne : ∀ i, i < ls.length → ∀ q, q ∈ (c.hs i).F ∨ q ∈ (c.hs i).im → q ≠ c.cb ∧ q ≠ c.mb ∧ ∀ ad, c.va = some ad → ad.block ≠ q
  dis : ∀ i j, i < ls.length → j < ls.length → i ≠ j → ∀ q, q ∈ (c.hs i).F → q ∉ (c.hs j).F
  imd : ∀ i j, i < ls.length → j < ls.length → ∀ q, q ∈ (c.hs i).F → q ∉ (c.hs j).im
/-- the chain's own blocks -/
def CH.own (c : CH) (q : Nat) : Prop := q = c.cb ∨ q = c.mb ∨ ∃ ad, c.va = some ad ∧ ad.block = q
def CH.foot (c : CH) (k : Nat) (q : Nat) : Prop := c.own q ∨ ∃ i, i < k ∧ q ∈ (c.hs i).F
def CH.imm (c : CH) (k : Nat) (q : Nat) : Prop := ∃ i, i < k ∧ q ∈ (c.hs i).im
def putL (ls : List Lv) (i : Nat) (l : Lv) : List Lv := ls.take i ++ l :: ls.drop (i + 1)
theorem putL_len {ls : List Lv} {i : Nat} {l : Lv} (h : i ≤ ls.length) : (putL ls i l).length = if i = ls.length then ls.length + 1 else ls.length := by
  unfold putL; simp only [List.length_append, List.length_take, List.length_cons, List.length_drop]; split <;> omega
theorem putL_getD {ls : List Lv} {i : Nat} {l : Lv} (h : i ≤ ls.length) (j : Nat) : (putL ls i l).getD j lv0 = if j = i then l else ls.getD j lv0 := by
  unfold putL
  rw [List.getD_eq_getElem?_getD]
  by_cases e : j < i
  · rw [List.getElem?_append_left (by simp; omega), List.getElem?_take, if_pos e, if_neg (by omega), ← List.getD_eq_getElem?_getD]
  · rw [List.getElem?_append_right (by simp; omega), List.length_take, Nat.min_eq_left h]
    by_cases e' : j = i
    · subst e'; simp
    · rw [if_neg e']
      obtain ⟨t, rfl⟩ : ∃ t, j = i + 1 + t := ⟨j - i - 1, by omega⟩
      rw [show i + 1 + t - i = t + 1 by omega, List.getElem?_cons_succ, List.getElem?_drop, ← List.getD_eq_getElem?_getD]
theorem range_set {k i : Nat} (f g : Nat → Value) (hg : ∀ j, j ≠ i → g j = f j) : ((List.range k).map f).set i (g i) = (List.range k).map g := by
  apply List.ext_getElem?
  intro j
  rw [List.getElem?_set, List.length_map, List.length_range, List.getElem?_map, List.getElem?_map]
  by_cases e : i = j
  · subst e; rw [if_pos rfl]
    by_cases h : i < k
    · rw [if_pos h, List.getElem?_range h]; rfl
    · rw [if_neg h, List.getElem?_eq_none (by simpa using h)]; rfl
  · rw [if_neg e]
    by_cases h : j < k
    · rw [List.getElem?_range h]; simp only [Option.map_some]; rw [hg j (fun e' => e e'.symm)]
    · rw [List.getElem?_eq_none (by simpa using h)]; rfl
theorem range_add {k : Nat} (f g : Nat → Value) (z : Value) (hg : ∀ j, j ≠ k → g j = f j) : ((List.range k).map f ++ [z]).set k (g k) = (List.range (k + 1)).map g := by
  rw [List.range_succ, List.map_append, List.set_append_right _ _ (by simp)]
  simp only [List.length_map, List.length_range, Nat.sub_self, List.map_cons, List.map_nil, List.set_cons_zero]
  congr 1
  apply List.map_congr_left
  intro j hj
  rw [List.mem_range] at hj
  exact (hg j (by omega)).symm
end Go.Proofs.YthhfjagnmhhapaaGreat

namespace Go.W
theorem Own.baPos {w : World} {lo T s n cap : Nat} {a : Option Addr} {vs : List Value} (h : Own w lo T s a n cap vs) (hn : 0 < n) : ∃ g, a = some ⟨g, 0, none⟩ := by
  obtain ⟨m, rfl⟩ : ∃ m, n = m + 1 := ⟨n - 1, by omega⟩
  exact h.ba
end Go.W
namespace Go.Proofs.YthhfjagnmhhapaaGreat
open Go.W Go.PM
/-- a chain of which level x may be spoiled -/
structure ChBut (w : World) (n : Nat) (c : CH) (ls : List Lv) (x : Nat) : Prop where
  str : Blk w c.cb 62 (chL n ls.length c)
  st : c.st < 18446744073709551616
  map : MapAt w c.mb c.m
  mok : MapOK c.m ls.length (fun i => (c.hs i).blk)
  dv : Own w 0 114 1 c.va ls.length c.vc ((List.range ls.length).map fun i => dvV (c.hs i))
  lv : ∀ i, i < ls.length → i ≠ x → LvAt w n (c.hs i) (ls.getD i lv0)
  cmb : c.cb ≠ c.mb
  vne : ∀ ad, c.va = some ad → ad.block ≠ c.cb ∧ ad.block ≠ c.mb
  fne : ∀ i, i < ls.length → i ≠ x → ∀ q, q ∈ (c.hs i).F ∨ q ∈ (c.hs i).im → q ≠ c.cb ∧ q ≠ c.mb ∧ ∀ ad, c.va = some ad → ad.block ≠ q
  dis : ∀ i j, i < ls.length → j < ls.length → i ≠ x → j ≠ x → i ≠ j → ∀ q, q ∈ (c.hs i).F → q ∉ (c.hs j).F
  imd : ∀ i j, i < ls.length → j < ls.length → i ≠ x → j ≠ x → ∀ q, q ∈ (c.hs i).F → q ∉ (c.hs j).im
theorem ChAt.but {F : Nat → Prop} {w w' : World} {n : Nat} {c : CH} {ls : List Lv} (hC : ChAt w n c ls) (x : Nat) (f : Fr F w w') (hF : ∀ q, c.own q → ¬ F q) (hL : ∀ i, i < ls.length → i ≠ x → ∀ q, q ∈ (c.hs i).F ∨ q ∈ (c.hs i).im → ¬ F q) : ChBut w' n c ls x :=
  ⟨hC.str.fr f (hF _ (.inl rfl)), hC.st, hC.map.fr f (hF _ (.inr (.inl rfl))), hC.mok, hC.dv.fr f (fun ad e => hF _ (.inr (.inr ⟨ad, e, rfl⟩))), fun i hi hx => (hC.lv i hi).fr f (fun q hq => hL i hi hx q (.inl hq)) (fun q hq => hL i hi hx q (.inr hq)),
    hC.cmb, hC.vne, fun i hi _ => hC.fne i hi, fun i j hi hj _ _ => hC.dis i j hi hj, fun i j hi hj _ _ => hC.imd i j hi hj⟩
structure Fits (c : CH) (k i : Nat) (h : LH) : Prop where
  own : ∀ q, q ∈ h.F ∨ q ∈ h.im → ¬ c.own q
  d1 : ∀ j, j < k → j ≠ i → ∀ q, q ∈ h.F → q ∉ (c.hs j).F ∧ q ∉ (c.hs j).im
  d2 : ∀ j, j < k → j ≠ i → ∀ q, q ∈ (c.hs j).F → q ∉ h.im
theorem mapT : Tryz.prog.underlying 58 = some (.map 3 65) := by kernel_rfl
theorem intT : Tryz.prog.underlying 3 = some (.int .i64) := by kernel_rfl
/-- what is left to show of a chain after a put -/
theorem put_ok {w w' : World} {n i : Nat} {c : CH} {ls : List Lv} {h : LH} {l : Lv} {va' : Option Addr} {vc' : Nat} {m' : List (Int × Value)} (hC : ChBut w n c ls i) (hi : i ≤ ls.length) (hL : LvAt w n h l) (hf : Fits c ls.length i h)
    (hfr : Fr c.own w w') (hva : va' = c.va ∨ ∀ ad, va' = some ad → w.heap.size ≤ ad.block)
    (hstr : Blk w' c.cb 62 (chL n (putL ls i l).length { c with va := va', vc := vc', m := m', hs := fun j => if j = i then h else c.hs j })) (hmap : MapAt w' c.mb m')
    (hmk : MapOK m' (putL ls i l).length (fun j => if j = i then h.blk else (c.hs j).blk))
    (hdv : Own w' 0 114 1 va' (putL ls i l).length vc' ((List.range (putL ls i l).length).map fun j => dvV (if j = i then h else c.hs j))) :
    ChAt w' n { c with va := va', vc := vc', m := m', hs := fun j => if j = i then h else c.hs j } (putL ls i l) := by
  have hlen : ∀ j, j < (putL ls i l).length → j ≠ i → j < ls.length := fun j hj hne => by rw [putL_len hi] at hj; split at hj <;> omega
  have hlt : ∀ q, q ∈ h.F ∨ q ∈ h.im → q < w.heap.size := fun q hq => hq.elim (hL.lt q) (hL.imlt q)
  have hltj : ∀ j, j < ls.length → j ≠ i → ∀ q, q ∈ (c.hs j).F ∨ q ∈ (c.hs j).im → q < w.heap.size := fun j hj hx q hq => hq.elim ((hC.lv j hj hx).lt q) ((hC.lv j hj hx).imlt q)
  have hnown : ∀ j, j < ls.length → j ≠ i → ∀ q, q ∈ (c.hs j).F ∨ q ∈ (c.hs j).im → ¬ c.own q := fun j hj hx q hq ho => by
    obtain ⟨h1, h2, h3⟩ := hC.fne j hj hx q hq
    rcases ho with ho | ho | ⟨ad, h4, h5⟩
    · exact h1 ho
    · exact h2 ho
    · exact h3 ad h4 h5
  have hsz := hfr.size
  have hne3 : ∀ q, q < w.heap.size → ¬ c.own q → q ≠ c.cb ∧ q ≠ c.mb ∧ ∀ ad, va' = some ad → ad.block ≠ q := fun q hq ho => by
    refine ⟨fun e => ho (.inl e), fun e => ho (.inr (.inl e)), fun ad e e' => ?_⟩
    rcases hva with rfl | hva
    · exact ho (.inr (.inr ⟨ad, e, e'⟩))
    · have := hva ad e; omega
  refine ⟨hstr, hC.st, hmap, ?_, hdv, fun j hj => ?_, hC.cmb, fun ad e => ?_, fun j hj q hq => ?_, fun j k hj hk hne q hq => ?_, fun j k hj hk q hq => ?_⟩
  · have e : (fun j => (if j = i then h else c.hs j).blk) = fun j => if j = i then h.blk else (c.hs j).blk := by funext j; split <;> rfl
    show MapOK m' _ (fun j => (if j = i then h else c.hs j).blk)
    rw [e]; exact hmk
  · rw [putL_getD hi]
    simp only
    by_cases e : j = i
    · rw [if_pos e, if_pos e]; exact hL.fr hfr (fun q hq => hf.own q (.inl hq)) (fun q hq => hf.own q (.inr hq))
    · rw [if_neg e, if_neg e]; exact (hC.lv j (hlen j hj e) e).fr hfr (fun q hq => hnown j (hlen j hj e) e q (.inl hq)) (fun q hq => hnown j (hlen j hj e) e q (.inr hq))
  · rcases hva with rfl | hva
    · exact hC.vne ad e
    · have h1 := hva ad e
      have h2 := hC.str.lt
      have h3 := hC.map.lt
      exact ⟨by simp only; omega, by simp only; omega⟩
  · simp only at hq ⊢
    by_cases e : j = i
    · rw [if_pos e] at hq; exact hne3 q (hlt q hq) (hf.own q hq)
    · rw [if_neg e] at hq; exact hne3 q (hltj j (hlen j hj e) e q hq) (hnown j (hlen j hj e) e q hq)
  · simp only at hq ⊢
    by_cases e : j = i
    · rw [if_pos e] at hq; rw [if_neg (by omega)]; exact (hf.d1 k (hlen k hk (by omega)) (by omega) q hq).1
    · rw [if_neg e] at hq
      by_cases e' : k = i
      · rw [if_pos e']; exact fun hq' => (hf.d1 j (hlen j hj e) e q hq').1 hq
      · rw [if_neg e']; exact hC.dis j k (hlen j hj e) (hlen k hk e') e e' hne q hq
  · simp only at hq ⊢
    by_cases e : j = i
    · rw [if_pos e] at hq
      by_cases e' : k = i
      · rw [if_pos e']; exact hL.dis q hq
      · rw [if_neg e']; exact (hf.d1 k (hlen k hk e') e' q hq).2
    · rw [if_neg e] at hq
      by_cases e' : k = i
      · rw [if_pos e']; exact hf.d2 j (hlen j hj e) e q hq
      · rw [if_neg e']; exact hC.imd j k (hlen j hj e) (hlen k hk e') e e' q hq
theorem put_spec {w : World} {n i : Nat} {c : CH} {ls : List Lv} {h : LH} {l : Lv} (hC : ChBut w n c ls i) (hi : i ≤ ls.length) (hL : LvAt w n h l) (hf : Fits c ls.length i h) (hk : ls.length ≤ 1000000000000) :
    CallsR Tryz.prog 50 #[.pointer (some ⟨c.cb, 0, none⟩), .int .i64 (i : Int), .pointer (some ⟨h.blk, 0, none⟩)] w fun v w' => v = .tuple #[] ∧ ∃ va' vc' m', ChAt w' n { c with va := va', vc := vc', m := m', hs := fun j => if j = i then h else c.hs j } (putL ls i l) ∧ Fr c.own w w' ∧ (va' = c.va ∨ ∀ ad, va' = some ad → w.heap.size ≤ ad.block) := by
  refine callsR_of (args := [_, _, _]) Tryz.func50 rfl rfl ?_
  have hstr := hC.str
  have own1 : c.own c.cb := .inl rfl
  have own2 : c.own c.mb := .inr (.inl rfl)
  by_cases hik : i < ls.length
  · obtain ⟨j, hj, hfd, hjm⟩ := hC.mok.find hik
    obtain ⟨hmk, hmne⟩ := hC.mok.put hik hjm h.blk
    obtain ⟨vg, hvg⟩ := hC.dv.baPos (by omega)
    have hvne := hC.vne _ hvg
    simp only at hvne
    have hdv := hC.dv
    have own3 : c.own vg := .inr (.inr ⟨_, hvg, rfl⟩)
    rw [hvg] at hdv
    have hstr' : Blk w c.cb 62 [.int .i64 (n : Int), .map (some c.mb), .slice (some ⟨vg, 0, none⟩) ls.length c.vc, .int .u64 (c.st : Int)] := by unfold chL at hstr; rw [hvg] at hstr; exact hstr
    have hpl : (putL ls i l).length = ls.length := by rw [putL_len hi, if_neg (by omega)]
    repeat' (first | (refine k_loadC rfl hstr' rfl ?_) | (refine k_mapDel mapT intT rfl rfl hC.map hfd hj (fun w1 hc1 hm1 => ⟨fun _ _ => trivial, ?_⟩)) | (refine k_pure rfl ?_) | (refine then_normal ?_) | (refine cw_seq ?_) | (refine cw_region rfl ?_) | (refine rr_nil ?_) | (refine k_fieldAddr rfl ?_))
    have str1 := hstr'.chg hc1 hC.cmb
    repeat' (first | (refine k_loadC rfl str1 rfl ?_) | (refine k_mapNew (v := .pointer (some ⟨h.blk, 0, none⟩)) mapT intT rfl rfl rfl hm1 hmne (fun w2 hc2 hm2 => ⟨fun _ _ => trivial, ?_⟩)) | (refine k_pure rfl ?_) | (refine then_normal ?_) | (refine cw_seq ?_) | (refine cw_region rfl ?_) | (refine rr_nil ?_) | (refine k_fieldAddr rfl ?_))
    have str2 := str1.chg hc2 hC.cmb
    have dv2 := (hdv.chg hc1 (by rintro _ ⟨⟩; exact hvne.2)).chg hc2 (by rintro _ ⟨⟩; exact hvne.2)
    repeat' (first | (refine k_loadC rfl str2 rfl ?_) | (refine k_pure rfl ?_) | (refine then_normal ?_) | (refine cw_region rfl ?_) | (refine rr_nil ?_) | (refine k_len rfl ?_) | (refine k_fieldAddr rfl ?_) | (refine cw_cond_dec rfl (fun hc => ?_) (fun hc => ?_)) | (refine cw_skip ?_))
    · omega
    · repeat' (first | (refine k_mkFunc ?_) | (refine k_indexN (j := i) rfl rfl ⟨_, _, rfl⟩ hik ?_) | (refine k_storeOwn (v := dvV h) rfl rfl rfl dv2 (by simp; omega) (fun g w3 hg _ hc3 ho3 => ⟨fun _ _ => trivial, ?_⟩)) | (refine rr_nil ?_))
      obtain rfl : vg = g := by injection hg with e; injection e
      have str3 := str2.chg hc3 (Ne.symm hvne.1)
      have e := range_set (k := ls.length) (i := i) (fun j => dvV (c.hs j)) (fun j => dvV (if j = i then h else c.hs j)) (fun j hj => by simp only [if_neg hj])
      simp only [ite_true] at e
      rw [e] at ho3
      have hfr : Fr c.own w w3 := (hc1.fr own2).trans ((hc2.fr own2).trans (hc3.fr own3))
      refine end0 rfl ⟨rfl, c.va, c.vc, _, put_ok hC hi hL hf hfr (.inl rfl) ?_ (hm2.chg hc3 (Ne.symm hvne.2)) ?_ ?_, hfr, .inl rfl⟩
      · rw [hpl]; unfold chL; simp only [hvg]; exact str3
      · rw [hpl]; exact hmk
      · rw [hpl, hvg]; exact ho3
  · obtain rfl : i = ls.length := by omega
    obtain ⟨hmk, hmne⟩ := hC.mok.add h.blk
    have hpl : (putL ls ls.length l).length = ls.length + 1 := by rw [putL_len hi, if_pos rfl]
    have hdv := hC.dv
    unfold chL at hstr
    repeat' (first | (refine k_loadC rfl hstr rfl ?_) | (refine k_mapDel0 mapT intT rfl rfl hC.map hmne (fun w1 hc1 hm1 => ⟨fun _ _ => trivial, ?_⟩)) | (refine k_pure rfl ?_) | (refine then_normal ?_) | (refine cw_seq ?_) | (refine cw_region rfl ?_) | (refine rr_nil ?_) | (refine k_fieldAddr rfl ?_))
    have str1 := hstr.chg hc1 hC.cmb
    repeat' (first | (refine k_loadC rfl str1 rfl ?_) | (refine k_mapNew (v := .pointer (some ⟨h.blk, 0, none⟩)) mapT intT rfl rfl rfl hm1 hmne (fun w2 hc2 hm2 => ⟨fun _ _ => trivial, ?_⟩)) | (refine k_pure rfl ?_) | (refine then_normal ?_) | (refine cw_seq ?_) | (refine cw_region rfl ?_) | (refine rr_nil ?_) | (refine k_fieldAddr rfl ?_))
    have str2 := str1.chg hc2 hC.cmb
    have dv2 := (hdv.chg hc1 (fun ad e => (hC.vne ad e).2)).chg hc2 (fun ad e => (hC.vne ad e).2)
    have f12 : Fr c.own w w2 := (hc1.fr own2).trans (hc2.fr own2)
    repeat' (first | (refine k_loadC rfl str2 rfl ?_) | (refine k_pure rfl ?_) | (refine then_normal ?_) | (refine cw_region rfl ?_) | (refine rr_nil ?_) | (refine k_len rfl ?_) | (refine k_fieldAddr rfl ?_) | (refine cw_cond_dec rfl (fun hc => ?_) (fun hc => ?_)) | (refine cw_skip ?_))
    · refine k_app1 (v := .nilFunc) rfl rfl rfl rfl rfl rfl dv2 (by omega) (by omega) (Nat.zero_le _) (fun gx a3 c3 w3 ho3 hg3 hA3 => ?_)
      have hvown : ∀ q, (Value.slice c.va ls.length c.vc).ownBlock = some q → c.own q := fun q e => by
        cases hv : c.va with
        | none => rw [hv] at e; simp [Value.ownBlock] at e
        | some ad => rw [hv] at e; simp [Value.ownBlock] at e; exact .inr (.inr ⟨ad, hv, e⟩)
      have f23 : Fr c.own w2 w3 := grown_fr hg3 hvown
      have hvnc : (Value.slice c.va ls.length c.vc).ownBlock ≠ some c.cb ∧ (Value.slice c.va ls.length c.vc).ownBlock ≠ some c.mb := by
        cases hv : c.va with
        | none => simp [Value.ownBlock]
        | some ad => have := hC.vne ad hv; simp [Value.ownBlock]; exact this
      obtain ⟨v3, rfl⟩ := Own.ba ho3
      have str3 := str2.gb hg3 hvnc.1
      have sz2 := f12.size
      have hv3 : v3 ≠ c.cb ∧ v3 ≠ c.mb := by
        rcases hA3 with e | e
        · have := hC.vne _ e.symm; exact this
        · have := e _ rfl; have h1 := str2.lt; have h2 := hm2.lt; simp only at this; omega
      repeat' (first | (refine k_storeC rfl rfl rfl str3 rfl (fun w4 hc4 hs4 => ⟨fun _ _ => trivial, ?_⟩)) | (refine k_pure rfl ?_) | (refine then_normal ?_) | (refine cw_region rfl ?_) | (refine rr_nil ?_) | (refine k_fieldAddr rfl ?_))
      have dv4 := ho3.chg hc4 (by rintro _ ⟨⟩; exact hv3.1)
      repeat' (first | (refine k_loadC rfl hs4 rfl ?_) | (refine k_mkFunc ?_) | (refine k_indexN (j := ls.length) rfl rfl ⟨_, _, rfl⟩ (by omega) ?_) | (refine k_storeOwn (v := dvV h) rfl rfl rfl dv4 (by simp [Value.cells]) (fun g w5 hg _ hc5 ho5 => ⟨fun _ _ => trivial, ?_⟩)) | (refine k_pure rfl ?_) | (refine rr_nil ?_))
      obtain rfl : v3 = g := by injection hg with e; injection e
      have str5 := hs4.chg hc5 (Ne.symm hv3.1)
      have hm5 : MapAt w5 c.mb _ := ((hm2.of_block (hg3.block _ hm2.lt (Ne.symm hvnc.2))).chg hc4 (Ne.symm hC.cmb)).chg hc5 (Ne.symm hv3.2)
      have e := range_add (k := ls.length) (fun j => dvV (c.hs j)) (fun j => dvV (if j = ls.length then h else c.hs j)) Value.nilFunc (fun j hj => by simp only [if_neg hj])
      simp only [ite_true] at e
      have ho5' : Own w5 0 114 1 (some ⟨v3, 0, none⟩) (ls.length + 1) c3 (((List.range ls.length).map (fun j => dvV (c.hs j)) ++ [Value.nilFunc]).set ls.length (dvV h)) := ho5
      rw [e] at ho5'
      have hva : (some ⟨v3, 0, none⟩ : Option Addr) = c.va ∨ ∀ ad : Addr, (some ⟨v3, 0, none⟩ : Option Addr) = some ad → w.heap.size ≤ ad.block := hA3.imp id fun f ad e => Nat.le_trans sz2 (f ad e)
      have hfr : Fr c.own w w5 := by
        refine (f12.trans (f23.trans (hc4.fr own1))).then (f1C hc5) ?_
        rintro q hq rfl
        rcases hva with e | e
        · exact .inr (.inr ⟨_, e.symm, rfl⟩)
        · have := e _ rfl; exact absurd this (by simp only; omega)
      refine end0 rfl ⟨rfl, some ⟨v3, 0, none⟩, c3, _, put_ok hC hi hL hf hfr hva ?_ hm5 ?_ ?_, hfr, hva⟩
      · rw [hpl]; exact str5
      · rw [hpl]; exact hmk
      · rw [hpl]; exact ho5'
    · omega
end Go.Proofs.YthhfjagnmhhapaaGreat

namespace Go.Proofs.YthhfjagnmhhapaaGreat
open Go.W Go.PM
theorem ChAt.fr {F : Nat → Prop} {w w' : World} {n : Nat} {c : CH} {ls : List Lv} (hC : ChAt w n c ls) (f : Fr F w w') (hF : ∀ q, c.foot ls.length q → ¬ F q) (hI : ∀ q, c.imm ls.length q → ¬ F q) : ChAt w' n c ls :=
  ⟨hC.str.fr f (hF _ (.inl (.inl rfl))), hC.st, hC.map.fr f (hF _ (.inl (.inr (.inl rfl)))), hC.mok, hC.dv.fr f (fun ad e => hF _ (.inl (.inr (.inr ⟨ad, e, rfl⟩)))), fun i hi => (hC.lv i hi).fr f (fun q hq => hF q (.inr ⟨i, hi, hq⟩)) (fun q hq => hI q ⟨i, hi, hq⟩),
    hC.cmb, hC.vne, hC.fne, hC.dis, hC.imd⟩
theorem ChAt.drew {w : World} {n : Nat} {c : CH} {ls : List Lv} (hC : ChAt w n c ls) : ChAt w.drew n c ls := hC.fr (F := fun _ => False) ((Ex.refl w).drew.fr) (fun _ _ h => h) (fun _ _ h => h)
theorem ChAt.ext {w w' : World} {n : Nat} {c : CH} {ls : List Lv} (hC : ChAt w n c ls) (e : Ex w w') : ChAt w' n c ls := hC.fr (F := fun _ => False) e.fr (fun _ _ h => h) (fun _ _ h => h)
theorem ChAt.footlt {w : World} {n : Nat} {c : CH} {ls : List Lv} (hC : ChAt w n c ls) {q : Nat} (h : c.foot ls.length q) : q < w.heap.size := by
  rcases h with (h | h | ⟨ad, h1, h2⟩) | ⟨i, hi, hq⟩
  · rw [h]; exact hC.str.lt
  · rw [h]; exact hC.map.lt
  · rw [← h2]; exact (hC.dv.lo ad h1).2
  · exact (hC.lv i hi).lt q hq
theorem ChAt.immlt {w : World} {n : Nat} {c : CH} {ls : List Lv} (hC : ChAt w n c ls) {q : Nat} (h : c.imm ls.length q) : q < w.heap.size := by
  obtain ⟨i, hi, hq⟩ := h; exact (hC.lv i hi).imlt q hq
theorem ChAt.fresh {w : World} {n : Nat} {c : CH} {ls : List Lv} (hC : ChAt w n c ls) {q : Nat} (h : w.heap.size ≤ q) : ¬ c.foot ls.length q ∧ ¬ c.imm ls.length q :=
  ⟨fun hf => by have := hC.footlt hf; omega, fun hf => by have := hC.immlt hf; omega⟩
theorem drop_cons {ls : List Lv} {i : Nat} (h : i < ls.length) : ls.drop i = ls.getD i lv0 :: ls.drop (i + 1) := by
  rw [List.drop_eq_getElem_cons h, List.getD_eq_getElem?_getD, List.getElem?_eq_getElem h]; rfl
theorem csift_spec {w : World} {n first : Nat} {c : CH} {ls : List Lv} {p : List Int} {pb cap : Nat} (hC : ChAt w n c ls) (hok : ∀ i, first ≤ i → i < ls.length → LvOK n (ls.getD i lv0)) (hfi : first ≤ ls.length) (pp : PermN n p)
    (hp : Own w 0 70 1 (ba pb) n cap (u16L p)) (hF : ¬ c.foot ls.length pb) (hI : ¬ c.imm ls.length pb) (hk : ls.length ≤ 1000000000000) :
    CallsR Tryz.prog 70 #[.pointer (some ⟨c.cb, 0, none⟩), .int .i64 (first : Int), .slice (ba pb) n cap] w fun v w' => v = .int .i64 ((first + (siftL (ls.drop first) p).2 : Nat) : Int) ∧ Chg pb w w' ∧
      Own w' 0 70 1 (ba pb) n cap (u16L (siftL (ls.drop first) p).1) := by
  refine callsR_of (args := [_, _, _]) Tryz.func70 rfl rfl ?_
  repeat' (first | (refine k_pure rfl ?_) | (refine then_normal ?_) | (refine cw_seq ?_) | (refine cw_region rfl ?_) | (refine rr_nil ?_) | (refine cw_block ?_))
  refine cw_loop (ι := Nat × List Int) [6, 7, 9, 10, 11, 12, 13, 14, 15, 16, 17, 18, 19, 20, 21, 22, 23, 24, 25, 26, 27, 28] (fun s => [(7, .int .i64 (s.1 : Int))]) (fun s w' => first ≤ s.1 ∧ s.1 ≤ ls.length ∧ Chg pb w w' ∧ PermN n s.2 ∧ Own w' 0 70 1 (ba pb) n cap (u16L s.2) ∧ siftL (ls.drop first) p = ((siftL (ls.drop s.1) s.2).1, (siftL (ls.drop s.1) s.2).2 + (s.1 - first))) (fun s => ls.length - s.1)
    (first, p) ⟨rfl, trivial⟩ ⟨Nat.le_refl _, hfi, Chg.refl _ _, pp, hp, by simp⟩ ?_
  rintro ⟨i, q⟩ ξ w1 ⟨h1, h2, hc1, pq, ho1, he⟩
  simp only at h1 h2 pq ho1 he
  show CW _ _ _ _ (over [(7, .int .i64 (i : Int))] _) w1
  have hC1 := hC.fr (f1C hc1) (fun q hq e => hF (e ▸ hq)) (fun q hq e => hI (e ▸ hq))
  have hstr := hC1.str
  unfold chL at hstr
  repeat' (first | (refine k_loadC rfl hstr rfl ?_) | (refine k_pure rfl ?_) | (refine then_normal ?_) | (refine cw_seq ?_) | (refine cw_region rfl ?_) | (refine rr_nil ?_) | (refine k_len rfl ?_) | (refine k_fieldAddr rfl ?_) | (refine cw_cond_dec rfl (fun hc => ?_) (fun hc => ?_)) | (refine cw_block ?_) | (refine cw_exit ?_) | (refine then_exit ?_) | (refine in_exit ?_) | (refine cw_ret ?_) | (refine cw_skip ?_))
  · have hi : i < ls.length := by omega
    obtain ⟨vg, hvg⟩ := hC1.dv.baPos (by omega)
    have hdv := hC1.dv.sl
    have hgi : ((List.range ls.length).map fun i => dvV (c.hs i))[i]? = some (dvV (c.hs i)) := by rw [List.getElem?_map, List.getElem?_range hi]; rfl
    have ok := hok i h1 hi
    have hdrop := drop_cons hi
    repeat' (first | (refine k_indexN (j := i) rfl rfl ⟨_, _, hvg⟩ hi ?_) | (refine k_loadL rfl hdv hgi ?_) | (refine k_pure rfl ?_))
    refine k_callV (f := 67) (first := #[.pointer (some ⟨(c.hs i).blk, 0, none⟩)]) (cap := #[]) rfl (divide_spec (hC1.lv i hi) ok pq ho1 (fun hq => hF (.inr ⟨i, hi, hq⟩)) (fun hq => hI ⟨i, hi, hq⟩)) ?_ ?_
    · rfl
    rintro v w2 ⟨rfl, hc2, ho2⟩
    refine ⟨fun _ _ => trivial, ?_⟩
    by_cases hm : ap q (ls.getD i lv0).pt ∈ (ls.getD i lv0).orb
    · rw [decide_eq_true hm]
      rw [if_pos hm] at ho2
      have hq2 := pq.mul (ok.grp.perm _ (ok.to_in hm))
      rw [hdrop, siftL, if_pos hm] at he
      repeat' (first | (refine k_pure rfl ?_) | (refine then_normal ?_) | (refine cw_region rfl ?_) | (refine rr_nil ?_) | (refine k_addI rfl rfl (by omega) (by omega) ?_) | (refine cw_cond_false rfl ?_) | (refine in_normal ?_) | (refine cw_skip ?_))
      refine ⟨⟨(i + 1, mulP q ((ls.getD i lv0).to (ap q (ls.getD i lv0).pt))), ⟨by simp only; omega, by simp only; omega, hc1.trans hc2, hq2, ho2, ?_⟩, by simp only; omega, rfl, trivial⟩, (by (repeat (first | exact agree_mask _ _ _ | refine agree_upd rfl ?_ | refine agree_updO rfl ?_ | refine agree_overIn rfl ?_ | refine agree_maskIn rfl ?_)))⟩
      rw [he]
      simp only
      rw [show i + 1 - first = 1 + (i - first) by omega, Nat.add_assoc]
    · rw [decide_eq_false hm]
      rw [if_neg hm] at ho2
      rw [hdrop, siftL, if_neg hm] at he
      repeat' (first | (refine k_pure rfl ?_) | (refine then_normal ?_) | (refine cw_seq ?_) | (refine cw_region rfl ?_) | (refine rr_nil ?_) | (refine cw_cond_true rfl ?_) | (refine cw_ret ?_) | (refine then_ret ?_) | (refine in_ret ?_))
      refine ret1 rfl (rt rfl) ⟨?_, hc1.trans hc2, ?_⟩
      · rw [he]; simp only; rw [show first + (0 + (i - first)) = i by omega]; rfl
      · rw [he]; exact ho2
  · obtain rfl : i = ls.length := by omega
    have hd : ls.drop ls.length = [] := by simp
    rw [hd, siftL] at he
    skip
    refine ret1 rfl (rt rfl) ⟨?_, hc1, ?_⟩
    · rw [he]; simp only; rw [show first + (0 + (ls.length - first)) = ls.length by omega]; rfl
    · rw [he]; exact ho1
end Go.Proofs.YthhfjagnmhhapaaGreat

namespace Go.PM
theorem ins_one {n : Nat} {p : List Int} (d0 : Lv) : ∀ (d : Nat) (A B : List Lv), d < A.length → B.length = A.length → (∀ j, j ≤ d → LvExt n p (A.getD j d0) (B.getD j d0)) → (∀ j, d < j → B.getD j d0 = A.getD j d0) → Ins n p d A B
  | _, [], _, h, _, _, _ => absurd h (by simp)
  | _, _ :: _, [], _, h, _, _ => absurd h (by simp)
  | 0, a :: A, b :: B, _, hl, h1, h2 => by
    have e : B = A := by
      simp only [List.length_cons, Nat.succ.injEq] at hl
      apply List.ext_getElem? ; intro i
      have := h2 (i + 1) (by omega)
      simp only [List.getD_cons_succ] at this
      by_cases hi : i < A.length
      · rw [List.getD_eq_getElem?_getD, List.getD_eq_getElem?_getD, List.getElem?_eq_getElem hi, List.getElem?_eq_getElem (by omega)] at this
        rw [List.getElem?_eq_getElem hi, List.getElem?_eq_getElem (by omega)]
        simpa using this
      · rw [List.getElem?_eq_none (by omega), List.getElem?_eq_none (by omega)]
    subst e
    exact .last (h1 0 (Nat.le_refl _))
  | d + 1, a :: A, b :: B, h, hl, h1, h2 => .cons (h1 0 (by omega)) (ins_one d0 d A B (by simpa using h) (by simpa using hl) (fun j hj => by have := h1 (j + 1) (by omega); simpa using this) (fun j hj => by have := h2 (j + 1) (by omega); simpa using this))
theorem ins_two {n : Nat} {p : List Int} (d0 : Lv) : ∀ (A B : List Lv), B.length = A.length + 1 → (∀ j, j < A.length → LvExt n p (A.getD j d0) (B.getD j d0)) → LvNew n p (B.getD A.length d0) → Ins n p A.length A B
  | [], [], h, _, _ => absurd h (by simp)
  | [], [b], _, _, h => .new (by simpa using h)
  | [], _ :: _ :: _, h, _, _ => absurd h (by simp)
  | _ :: _, [], h, _, _ => absurd h (by simp)
  | a :: A, b :: B, hl, h1, h2 => .cons (h1 0 (by simp)) (ins_two d0 A B (by simpa using hl) (fun j hj => by have := h1 (j + 1) (by simpa using hj); simpa using this) (by simpa using h2))
end Go.PM
namespace Go.Proofs.YthhfjagnmhhapaaGreat
open Go.W Go.PM
theorem getD_drop {ls : List Lv} {f j : Nat} : (ls.drop f).getD j lv0 = ls.getD (f + j) lv0 := by
  rw [List.getD_eq_getElem?_getD, List.getElem?_drop, ← List.getD_eq_getElem?_getD]
/-- how the blocks of a chain may have changed -/
structure CStep (w : World) (pb : Nat) (c c' : CH) (k k' : Nat) : Prop where
  cb : c'.cb = c.cb
  mb : c'.mb = c.mb
  st : c'.st = c.st
  foot : ∀ q, c'.foot k' q → c.foot k q ∨ w.heap.size ≤ q
  imm : ∀ q, c'.imm k' q → c.imm k q ∨ q = pb ∨ w.heap.size ≤ q
theorem CStep.refl (w : World) (pb : Nat) (c : CH) (k : Nat) : CStep w pb c c k k := ⟨rfl, rfl, rfl, fun _ h => .inl h, fun _ h => .inl h⟩
structure InsJ (w : World) (n : Nat) (c : CH) (ls : List Lv) (p : List Int) (pb first : Nat) (i : Nat) (c1 : CH) (ls1 : List Lv) (w1 : World) : Prop where
  ch : ChAt w1 n c1 ls1
  len : ls1.length = if i = ls.length + 1 then ls.length + 1 else ls.length
  ext : ∀ j, first ≤ j → j < i → j < ls.length → LvExt n p (ls.getD j lv0) (ls1.getD j lv0)
  new : i = ls.length + 1 → LvNew n p (ls1.getD ls.length lv0)
  same : ∀ j, (j < first ∨ i ≤ j) → ls1.getD j lv0 = ls.getD j lv0
  fr : Fr (c.foot ls.length) w w1
  step : CStep w pb c c1 ls.length ls1.length
theorem InsJ.put {w w1 w2 w3 : World} {n : Nat} {c c1 : CH} {ls ls1 : List Lv} {p : List Int} {pb first i : Nat} (hJ : InsJ w n c ls p pb first i c1 ls1 w1) (hfi : first ≤ i) (hi : i ≤ ls.length) {F : Nat → Prop} (hF : ∀ q, q < w1.heap.size → F q → c1.foot ls1.length q) (f2 : Fr F w1 w2)
    {h : LH} {l : Lv} (hext : i < ls.length → LvExt n p (ls.getD i lv0) l) (hnew : i = ls.length → LvNew n p l)
    (hhF : ∀ q, q ∈ h.F → (i < ls1.length ∧ q ∈ (c1.hs i).F) ∨ w1.heap.size ≤ q) (hhI : ∀ q, q ∈ h.im → (i < ls1.length ∧ q ∈ (c1.hs i).im) ∨ q = pb ∨ w1.heap.size ≤ q)
    {va' : Option Addr} {vc' : Nat} {m' : List (Int × Value)} (hC' : ChAt w3 n { c1 with va := va', vc := vc', m := m', hs := fun j => if j = i then h else c1.hs j } (putL ls1 i l)) (f3 : Fr c1.own w2 w3) (hva : va' = c1.va ∨ ∀ ad, va' = some ad → w2.heap.size ≤ ad.block) :
    InsJ w n c ls p pb first (i + 1) { c1 with va := va', vc := vc', m := m', hs := fun j => if j = i then h else c1.hs j } (putL ls1 i l) w3 := by
  have hl1 : ls1.length = ls.length := by rw [hJ.len, if_neg (by omega)]
  have hpl := putL_len (ls := ls1) (l := l) (show i ≤ ls1.length by omega)
  have s1 := hJ.fr.size
  have s2 := f2.size
  have s3 := f3.size
  have hfoot : ∀ q, c1.foot ls1.length q → q < w.heap.size → c.foot ls.length q := fun q hq hlt => (hJ.step.foot q hq).resolve_right (by omega)
  have hlen : ∀ j, j < (putL ls1 i l).length → j ≠ i → j < ls1.length := fun j hj hne => by rw [hpl] at hj; split at hj <;> omega
  refine ⟨hC', ?_, fun j h1 h2 h3 => ?_, fun e => ?_, fun j hj => ?_, ?_, ⟨hJ.step.cb, hJ.step.mb, hJ.step.st, fun q hq => ?_, fun q hq => ?_⟩⟩
  · rw [hpl, hl1]; split <;> split <;> omega
  · rw [putL_getD (by omega)]
    by_cases e : j = i
    · subst e; rw [if_pos rfl]; exact hext h3
    · rw [if_neg e]; exact hJ.ext j h1 (by omega) h3
  · rw [putL_getD (by omega), if_pos (by omega)]; exact hnew (by omega)
  · rw [putL_getD (by omega), if_neg (by omega)]; exact hJ.same j (by omega)
  · refine (hJ.fr.then f2 fun q hq hf => hfoot q (hF q (by omega) hf) hq).then f3 fun q hq hf => hfoot q (.inl hf) hq
  · rcases hq with (hq | hq | ⟨ad, h1, h2⟩) | ⟨j, hj, hq⟩
    · exact hJ.step.foot q (.inl (.inl hq))
    · exact hJ.step.foot q (.inl (.inr (.inl hq)))
    · rcases hva with e | e
      · simp only at h1; rw [e] at h1; exact hJ.step.foot q (.inl (.inr (.inr ⟨ad, h1, h2⟩)))
      · have := e ad h1; exact .inr (by omega)
    · simp only at hq
      by_cases e : j = i
      · rw [if_pos e] at hq
        rcases hhF q hq with ⟨h1, h2⟩ | h1
        · exact hJ.step.foot q (.inr ⟨i, h1, h2⟩)
        · exact .inr (by omega)
      · rw [if_neg e] at hq; exact hJ.step.foot q (.inr ⟨j, hlen j hj e, hq⟩)
  · obtain ⟨j, hj, hq⟩ := hq
    simp only at hq
    by_cases e : j = i
    · rw [if_pos e] at hq
      rcases hhI q hq with ⟨h1, h2⟩ | h1 | h1
      · exact hJ.step.imm q ⟨i, h1, h2⟩
      · exact .inr (.inl h1)
      · exact .inr (.inr (by omega))
    · rw [if_neg e] at hq; exact hJ.step.imm q ⟨j, hlen j hj e, hq⟩
theorem InsJ.ins {w w1 : World} {n : Nat} {c c1 : CH} {ls ls1 : List Lv} {p : List Int} {pb first last : Nat} (hJ : InsJ w n c ls p pb first (last + 1) c1 ls1 w1) (hfl : first ≤ last) (hl : last ≤ ls.length) : Ins n p (last - first) (ls.drop first) (ls1.drop first) ∧ ls1.take first = ls.take first := by
  have hlen := hJ.len
  constructor
  · by_cases e : last = ls.length
    · subst e
      rw [if_pos rfl] at hlen
      have hd : (ls.drop first).length = ls.length - first := List.length_drop ..
      have h1 := ins_two (n := n) (p := p) lv0 (ls.drop first) (ls1.drop first) (by rw [List.length_drop, List.length_drop]; omega) (fun j hj => by
        rw [List.length_drop] at hj
        rw [getD_drop, getD_drop]; exact hJ.ext _ (by omega) (by omega) (by omega)) (by
        rw [getD_drop, hd, show first + (ls.length - first) = ls.length by omega]; exact hJ.new rfl)
      rw [hd] at h1; exact h1
    · rw [if_neg (by omega)] at hlen
      refine ins_one lv0 _ _ _ (by rw [List.length_drop]; omega) (by rw [List.length_drop, List.length_drop]; omega) (fun j hj => ?_) (fun j hj => ?_)
      · rw [getD_drop, getD_drop]; exact hJ.ext _ (by omega) (by omega) (by omega)
      · rw [getD_drop, getD_drop]; exact hJ.same _ (by omega)
  · have hle : ls.length ≤ ls1.length := by rw [hlen]; split <;> omega
    apply List.ext_getElem?
    intro i
    rw [List.getElem?_take, List.getElem?_take]
    split
    · have := hJ.same i (by omega)
      rw [List.getD_eq_getElem?_getD, List.getD_eq_getElem?_getD, List.getElem?_eq_getElem (by omega), List.getElem?_eq_getElem (by omega)] at this
      rw [List.getElem?_eq_getElem (by omega), List.getElem?_eq_getElem (by omega)]
      simpa using this
    · rfl
end Go.Proofs.YthhfjagnmhhapaaGreat

namespace Go.Proofs.YthhfjagnmhhapaaGreat
open Go.W Go.PM
theorem insert_spec {w : World} {n first last : Nat} {c : CH} {ls : List Lv} {p : List Int} {pb cap : Nat} (hC : ChAt w n c ls) (hok : ∀ i, first ≤ i → i < ls.length → LvOK n (ls.getD i lv0)) (hfl : first ≤ last) (hll : last ≤ ls.length) (pp : PermN n p) (hpi : p ≠ idList n)
    (hp : Sl w (ba pb) (u16L p)) (hF : ¬ c.foot ls.length pb) (hk : ls.length < 1000000000000) (hgl : ∀ i, i < ls.length → (ls.getD i lv0).gens.length < 1000000000000) :
    CallsR Tryz.prog 71 #[.pointer (some ⟨c.cb, 0, none⟩), .int .i64 (first : Int), .int .i64 (last : Int), .slice (ba pb) n cap] w fun v w' => v = .tuple #[] ∧ ∃ c' ls', InsJ w n c ls p pb first (last + 1) c' ls' w' := by
  refine callsR_of (args := [_, _, _, _]) Tryz.func71 rfl rfl ?_
  have hn := pp.n1
  have hpl : p.length = n := pp.2
  have hpb : pb < w.heap.size := hp.lt (by simp; omega) _ rfl
  repeat' (first | (refine k_pure rfl ?_) | (refine then_normal ?_) | (refine cw_seq ?_) | (refine cw_region rfl ?_) | (refine rr_nil ?_) | (refine cw_block ?_))
  refine cw_loop (ι := Nat × CH × List Lv) [8, 10, 11, 12, 13, 14, 15, 16, 17, 18, 19, 20, 21, 22, 23, 24, 25, 26, 27, 28, 29, 30, 31, 32, 33, 34, 35, 36, 37, 38, 39, 40, 41, 42, 43, 44] (fun s => [(8, .int .i64 (s.1 : Int))]) (fun s w' => first ≤ s.1 ∧ s.1 ≤ last + 1 ∧ InsJ w n c ls p pb first s.1 s.2.1 s.2.2 w') (fun s => last + 1 - s.1)
    (first, c, ls) ⟨rfl, trivial⟩ ⟨Nat.le_refl _, by simp only; omega, hC, by rw [if_neg (by omega)], fun j h1 h2 => absurd h2 (by omega), fun e => absurd e (by simp only; omega), fun _ _ => rfl, Fr.refl _ _, CStep.refl _ _ _ _⟩ ?_
  rintro ⟨i, c1, ls1⟩ ξ w1 ⟨h1, h2, hJ⟩
  simp only at h1 h2 hJ
  show CW _ _ _ _ (over [(8, .int .i64 (i : Int))] _) w1
  have hC1 := hJ.ch
  have hcb := hJ.step.cb
  have hmb := hJ.step.mb
  have hstr := hC1.str
  unfold chL at hstr
  rw [hcb] at hstr
  have hm1 := hC1.map
  have hml := hC1.mok.1
  have s1 := hJ.fr.size
  have hp1 : Sl w1 (ba pb) (u16L p) := hp.fr hJ.fr (by rintro _ ⟨⟩; exact hF)
  have hF1 : ¬ c1.foot ls1.length pb := fun hf => (hJ.step.foot pb hf).elim hF (by omega)
  have hl1 : i ≤ last → ls1.length = ls.length := fun h => by rw [hJ.len, if_neg (by omega)]
  repeat' (first | (refine k_loadC rfl hstr rfl ?_) | (refine k_lenMap mapT rfl hm1 ?_) | (refine k_pure rfl ?_) | (refine then_normal ?_) | (refine cw_seq ?_) | (refine cw_region rfl ?_) | (refine rr_nil ?_) | (refine k_fieldAddr rfl ?_) | (refine cw_cond_dec rfl (fun hc => ?_) (fun hc => ?_)) | (refine cw_block ?_) | (refine cw_exit ?_) | (refine then_exit ?_) | (refine in_exit ?_) | (refine cw_skip ?_))
  · have hil : i = ls1.length := by omega
    have hl1' := hl1 (by omega)
    have hEx : Ex w1 w1.drew := (Ex.refl w1).drew
    have hmvd : ∀ m, Moved p m → ∃ pt : Nat, m = (pt : Int) ∧ pt < n ∧ ap p pt ≠ pt := fun m hm => by
      rcases hm with ⟨_, h⟩ | ⟨a1, a2, a3⟩
      · rw [hpl] at h; exact absurd h hpi
      · exact ⟨m.toNat, by omega, by omega, by rw [Int.toNat_of_nonneg a1]; exact a3⟩
    have hgn : GensN n [p] := fun g hg => by rw [List.mem_singleton] at hg; subst hg; exact pp
    have ht : c1.cb = c.cb := hcb
    have hcell : ∀ w', Ex w1 w' → w'.cell? ⟨c.cb, 0, none⟩ = some (.int .i64 (n : Int)) := fun w' e => (hstr.ext e).cell (j := 0) (by simp)
    refine cw_tree (fun w' => w'.cell? ⟨c.cb, 0, none⟩ = some (.int .i64 (n : Int))) mixed (hcell _ hEx) ?_
    refine rb_pre (fuel := 4) (by kernel_rfl) (by kernel_rfl) [0, 1, 2, 3, 4, 5, 6, 8] _ _ (by kernel_rfl) ?_
    repeat' (first | (refine k_load rfl (fun _ h => h) ?_) | (refine k_pure rfl ?_) | (refine rr_nil ?_) | (refine k_fieldAddr rfl ?_))
    refine rb_all (fuel := 3) (rs := [7, 9]) (by kernel_rfl) (by kernel_rfl) rfl ?_
    simp only [List.forall_mem_cons, List.not_mem_nil, false_implies, implies_true, and_true]
    refine ⟨?_, ?_⟩
    · refine k_call (moved_spec (xs := p) (hp1.ext hEx) cap (fun k hk => by have := pp.1.lt hk; omega) (by omega)) (by rw [hpl]; rfl) ?_
      rintro v7 w7 ⟨m, rfl, hm, hE7⟩
      refine ⟨fun _ _ => hcell _ (hEx.trans hE7), ?_⟩
      replace hEx := hEx.trans hE7
      try replace hb9 := hb9.ext hE7
      obtain ⟨pt, rfl, hptn, hpt⟩ := hmvd m hm
      refine rr_nil ?_
      refine rb_all (fuel := 2) (rs := [9]) (by kernel_rfl) (by kernel_rfl) rfl ?_
      rw [List.forall_mem_singleton]
      refine k_lit1 (v := .slice (ba pb) n cap) rfl rfl (fun lb w9 hn9 => ⟨fun _ _ => hcell _ (hEx.trans hn9.ex), ?_⟩)
      have lb1 : w1.heap.size ≤ lb := Nat.le_trans hEx.size hn9.lo
      have hb9 := hn9.blk
      replace hEx := hEx.trans hn9.ex
      refine rr_nil ?_
      refine rb_all (fuel := 1) (rs := [10]) (by kernel_rfl) (by kernel_rfl) rfl ?_
      rw [List.forall_mem_singleton]
      have h0 : ∀ w' : World, Sl w' (ba pb) (u16L p) → PsAt w' n [lb, pb] [⟨ba pb, n, cap⟩] [p] := fun w' hs => PsAt.snoc (sds := []) (ps := []) ⟨rfl, fun i hi => absurd hi (by simp), fun i hi => absurd hi (by simp), fun i hi => absurd hi (by simp)⟩ hs rfl (by rintro _ ⟨⟩; simp)
      refine k_call (newLv_spec (im := [lb, pb]) (gs := [⟨ba pb, n, cap⟩]) (gens := [p]) (gc := 1) hn hptn hgn hb9.sl (h0 _ (hp1.ext hEx)) (by rintro _ ⟨⟩; simp) (by
        intro q hq
        have := hEx.size
        have := hb9.lt
        simp only [List.mem_cons, List.not_mem_nil, or_false] at hq
        omega) (Nat.le_refl _) (by simp)) rfl ?_
      rintro v10 w10 ⟨h', l', rfl, hL', ok', hpt', hg', hd', hE10, hF', hI', _, _, _⟩
      have s1x := hEx.size
      refine ⟨fun _ _ => hcell _ (hEx.trans hE10), ?_⟩
      replace hEx := hEx.trans hE10
      have hhF : ∀ q, q ∈ h'.F → w1.heap.size ≤ q := fun q hq => by have := hF' q hq; omega
      have hhI : ∀ q, q ∈ h'.im → q = pb ∨ w1.heap.size ≤ q := fun q hq => by
        rcases hI' q hq with hq | hq
        · simp only [List.mem_cons, List.not_mem_nil, or_false] at hq; omega
        · exact .inr (by omega)
      have hfit : Fits c1 ls1.length i h' := by
        refine ⟨fun q hq ho => ?_, fun j hj _ q hq => ?_, fun j hj _ q hq hq' => ?_⟩
        · have hlt := hC1.footlt (.inl ho)
          rcases hq with hq | hq
          · have := hhF q hq; omega
          · rcases hhI q hq with rfl | h
            · exact hF1 (.inl ho)
            · omega
        · have := hhF q hq
          exact ⟨fun hq' => by have := (hC1.lv j hj).lt q hq'; omega, fun hq' => by have := (hC1.lv j hj).imlt q hq'; omega⟩
        · have := (hC1.lv j hj).lt q hq
          rcases hhI q hq' with rfl | h
          · exact hF1 (.inr ⟨j, hj, hq⟩)
          · omega
      refine rr_nil ?_
      refine rb_all (fuel := 0) (rs := [11]) (by kernel_rfl) (by kernel_rfl) rfl ?_
      rw [List.forall_mem_singleton]
      refine k_call (put_spec (i := i) (hC1.but i (F := fun _ => False) hEx.fr (fun _ _ h => h) (fun _ _ _ _ _ h => h)) (by omega) hL' hfit (by omega)) (by rw [hcb]; rfl) ?_
      rintro v11 w11 ⟨rfl, va', vc', m', hC', f3, hva⟩
      have f2 : Fr (fun _ => False) w1 w10 := hEx.fr
      have hcb' := hC'.str
      simp only [hcb] at hcb'
      refine ⟨fun _ _ => hcb'.cell (j := 0) (by simp [chL]), ?_⟩
      refine rr_nil ?_
      refine rb_done (by kernel_rfl) ?_
      have hnew : i = ls.length → LvNew n p l' := fun _ => ⟨ok', hg', by rw [hpt']; exact hpt, hd'⟩
      repeat' (first | (refine k_pure rfl ?_) | (refine then_normal ?_) | (refine cw_region rfl ?_) | (refine rr_nil ?_) | (refine k_addI rfl rfl (by omega) (by omega) ?_) | (refine in_normal ?_))
      refine ⟨⟨(i + 1, _, _), ⟨by simp only; omega, by simp only; omega, hJ.put h1 (by omega) (fun _ _ h => h.elim) f2 (fun h => absurd h (by omega)) hnew (fun q hq => .inr (hhF q hq)) (fun q hq => .inr (hhI q hq)) hC' f3 hva⟩, by simp only; omega, rfl, trivial⟩, (by (repeat (first | exact agree_refl _ _ | refine agree_upd rfl ?_ | refine agree_updO rfl ?_ | refine agree_overIn rfl ?_ | refine agree_maskIn rfl ?_)))⟩
    · refine k_lit1 (v := .slice (ba pb) n cap) rfl rfl (fun lb w9 hn9 => ⟨fun _ _ => hcell _ (hEx.trans hn9.ex), ?_⟩)
      have lb1 : w1.heap.size ≤ lb := Nat.le_trans hEx.size hn9.lo
      have hb9 := hn9.blk
      replace hEx := hEx.trans hn9.ex
      refine rr_nil ?_
      refine rb_all (fuel := 2) (rs := [7]) (by kernel_rfl) (by kernel_rfl) rfl ?_
      rw [List.forall_mem_singleton]
      refine k_call (moved_spec (xs := p) (hp1.ext hEx) cap (fun k hk => by have := pp.1.lt hk; omega) (by omega)) (by rw [hpl]; rfl) ?_
      rintro v7 w7 ⟨m, rfl, hm, hE7⟩
      refine ⟨fun _ _ => hcell _ (hEx.trans hE7), ?_⟩
      replace hEx := hEx.trans hE7
      try replace hb9 := hb9.ext hE7
      obtain ⟨pt, rfl, hptn, hpt⟩ := hmvd m hm
      refine rr_nil ?_
      refine rb_all (fuel := 1) (rs := [10]) (by kernel_rfl) (by kernel_rfl) rfl ?_
      rw [List.forall_mem_singleton]
      have h0 : ∀ w' : World, Sl w' (ba pb) (u16L p) → PsAt w' n [lb, pb] [⟨ba pb, n, cap⟩] [p] := fun w' hs => PsAt.snoc (sds := []) (ps := []) ⟨rfl, fun i hi => absurd hi (by simp), fun i hi => absurd hi (by simp), fun i hi => absurd hi (by simp)⟩ hs rfl (by rintro _ ⟨⟩; simp)
      refine k_call (newLv_spec (im := [lb, pb]) (gs := [⟨ba pb, n, cap⟩]) (gens := [p]) (gc := 1) hn hptn hgn hb9.sl (h0 _ (hp1.ext hEx)) (by rintro _ ⟨⟩; simp) (by
        intro q hq
        have := hEx.size
        have := hb9.lt
        simp only [List.mem_cons, List.not_mem_nil, or_false] at hq
        omega) (Nat.le_refl _) (by simp)) rfl ?_
      rintro v10 w10 ⟨h', l', rfl, hL', ok', hpt', hg', hd', hE10, hF', hI', _, _, _⟩
      have s1x := hEx.size
      refine ⟨fun _ _ => hcell _ (hEx.trans hE10), ?_⟩
      replace hEx := hEx.trans hE10
      have hhF : ∀ q, q ∈ h'.F → w1.heap.size ≤ q := fun q hq => by have := hF' q hq; omega
      have hhI : ∀ q, q ∈ h'.im → q = pb ∨ w1.heap.size ≤ q := fun q hq => by
        rcases hI' q hq with hq | hq
        · simp only [List.mem_cons, List.not_mem_nil, or_false] at hq; omega
        · exact .inr (by omega)
      have hfit : Fits c1 ls1.length i h' := by
        refine ⟨fun q hq ho => ?_, fun j hj _ q hq => ?_, fun j hj _ q hq hq' => ?_⟩
        · have hlt := hC1.footlt (.inl ho)
          rcases hq with hq | hq
          · have := hhF q hq; omega
          · rcases hhI q hq with rfl | h
            · exact hF1 (.inl ho)
            · omega
        · have := hhF q hq
          exact ⟨fun hq' => by have := (hC1.lv j hj).lt q hq'; omega, fun hq' => by have := (hC1.lv j hj).imlt q hq'; omega⟩
        · have := (hC1.lv j hj).lt q hq
          rcases hhI q hq' with rfl | h
          · exact hF1 (.inr ⟨j, hj, hq⟩)
          · omega
      refine rr_nil ?_
      refine rb_all (fuel := 0) (rs := [11]) (by kernel_rfl) (by kernel_rfl) rfl ?_
      rw [List.forall_mem_singleton]
      refine k_call (put_spec (i := i) (hC1.but i (F := fun _ => False) hEx.fr (fun _ _ h => h) (fun _ _ _ _ _ h => h)) (by omega) hL' hfit (by omega)) (by rw [hcb]; rfl) ?_
      rintro v11 w11 ⟨rfl, va', vc', m', hC', f3, hva⟩
      have f2 : Fr (fun _ => False) w1 w10 := hEx.fr
      have hcb' := hC'.str
      simp only [hcb] at hcb'
      refine ⟨fun _ _ => hcb'.cell (j := 0) (by simp [chL]), ?_⟩
      refine rr_nil ?_
      refine rb_done (by kernel_rfl) ?_
      have hnew : i = ls.length → LvNew n p l' := fun _ => ⟨ok', hg', by rw [hpt']; exact hpt, hd'⟩
      repeat' (first | (refine k_pure rfl ?_) | (refine then_normal ?_) | (refine cw_region rfl ?_) | (refine rr_nil ?_) | (refine k_addI rfl rfl (by omega) (by omega) ?_) | (refine in_normal ?_))
      refine ⟨⟨(i + 1, _, _), ⟨by simp only; omega, by simp only; omega, hJ.put h1 (by omega) (fun _ _ h => h.elim) f2 (fun h => absurd h (by omega)) hnew (fun q hq => .inr (hhF q hq)) (fun q hq => .inr (hhI q hq)) hC' f3 hva⟩, by simp only; omega, rfl, trivial⟩, (by (repeat (first | exact agree_refl _ _ | refine agree_upd rfl ?_ | refine agree_updO rfl ?_ | refine agree_overIn rfl ?_ | refine agree_maskIn rfl ?_)))⟩
  · have hil : i < ls.length := by have := hl1 (by omega); omega
    have hl1' := hl1 (by omega)
    obtain ⟨j, hj, hfd, hjm⟩ := hC1.mok.find (show i < ls1.length by omega)
    have hsame := hJ.same i (.inr (Nat.le_refl _))
    have hLi := hC1.lv i (by omega)
    have oki := hok i h1 hil
    rw [← hsame] at oki
    have hgi := hgl i hil
    rw [← hsame] at hgi
    repeat' (first | (refine k_lookup mapT intT rfl rfl hm1 hfd ?_) | (refine k_pure rfl ?_))
    refine k_call (lvWith_spec hLi oki pp hp1 cap (by rintro _ ⟨⟩ hq; exact hF1 (.inr ⟨i, by omega, hq⟩)) hgi) rfl ?_
    rintro v10 w10 ⟨h', l', rfl, hL', hx', f2, hhF, hhI, hblk'⟩
    refine ⟨fun _ _ => trivial, ?_⟩
    have hhI' : ∀ q, q ∈ h'.im → q ∈ (c1.hs i).im ∨ q = pb ∨ w1.heap.size ≤ q := fun q hq => by
      rcases hhI q hq with h | ⟨ad, e1, e2⟩ | h
      · exact .inl h
      · injection e1 with e1; subst e1; exact .inr (.inl e2.symm)
      · exact .inr (.inr h)
    have s2 := f2.size
    have hfit : Fits c1 ls1.length i h' := by
      have hi1 : i < ls1.length := by omega
      have hnown : ∀ q, q ∈ (c1.hs i).F ∨ q ∈ (c1.hs i).im → ¬ c1.own q := fun q hq ho => by
        obtain ⟨a1, a2, a3⟩ := hC1.fne i hi1 q hq
        rcases ho with ho | ho | ⟨ad, a4, a5⟩
        · exact a1 ho
        · exact a2 ho
        · exact a3 ad a4 a5
      refine ⟨fun q hq ho => ?_, fun j hj hne q hq => ?_, fun j hj hne q hq hq' => ?_⟩
      · have hlt := hC1.footlt (.inl ho)
        rcases hq with hq | hq
        · rcases hhF q hq with h | h
          · exact hnown q (.inl h) ho
          · omega
        · rcases hhI' q hq with h | rfl | h
          · exact hnown q (.inr h) ho
          · exact hF1 (.inl ho)
          · omega
      · rcases hhF q hq with h | h
        · exact ⟨hC1.dis i j hi1 hj (Ne.symm hne) q h, hC1.imd i j hi1 hj q h⟩
        · exact ⟨fun hq' => by have := (hC1.lv j hj).lt q hq'; omega, fun hq' => by have := (hC1.lv j hj).imlt q hq'; omega⟩
      · have := (hC1.lv j hj).lt q hq
        rcases hhI' q hq' with h | rfl | h
        · exact hC1.imd j i hj hi1 q hq h
        · exact hF1 (.inr ⟨j, hj, hq⟩)
        · omega
    have hbut : ChBut w10 n c1 ls1 i := hC1.but i f2 (fun q ho hq => by
      obtain ⟨a1, a2, a3⟩ := hC1.fne i (by omega) q (.inl hq)
      rcases ho with ho | ho | ⟨ad, a4, a5⟩
      · exact a1 ho
      · exact a2 ho
      · exact a3 ad a4 a5) (fun j hj hne q hq hq' => by
      rcases hq with hq | hq
      · exact hC1.dis i j (by omega) hj (Ne.symm hne) q hq' hq
      · exact hC1.imd i j (by omega) hj q hq' hq)
    skip
    refine k_call (put_spec (i := i) hbut (by omega) hL' hfit (by omega)) (by rw [hcb]; rfl) ?_
    rintro v11 w11 ⟨rfl, va', vc', m', hC', f3, hva⟩
    refine ⟨fun _ _ => trivial, ?_⟩
    repeat' (first | (refine k_pure rfl ?_) | (refine then_normal ?_) | (refine cw_region rfl ?_) | (refine rr_nil ?_) | (refine k_addI rfl rfl (by omega) (by omega) ?_) | (refine in_normal ?_))
    refine ⟨⟨(i + 1, _, _), ⟨by simp only; omega, by simp only; omega, hJ.put h1 (by omega) (fun q _ h => .inr ⟨i, by omega, h⟩) f2 (fun _ => hsame ▸ hx') (fun h => absurd h (by omega)) (fun q hq => (hhF q hq).imp (fun h => ⟨by omega, h⟩) id) (fun q hq => (hhI' q hq).imp (fun h => ⟨by omega, h⟩) id) hC' f3 hva⟩, by simp only; omega, rfl, trivial⟩, (by (repeat (first | exact agree_mask _ _ _ | refine agree_upd rfl ?_ | refine agree_updO rfl ?_ | refine agree_overIn rfl ?_ | refine agree_maskIn rfl ?_)))⟩
  · obtain rfl : i = last + 1 := by omega
    exact end0 rfl ⟨rfl, c1, ls1, hJ⟩
end Go.Proofs.YthhfjagnmhhapaaGreat

namespace Go.W
section
variable {P : Program} {S : World → Prop} {ops : List Oper} {K : Env → World → Prop} {rest : List (Oper × Option Bool)} {ρ : Env} {w : World} {b : Option Bool} {kf : Bool} {d : Nat} {dst : Option Nat} {T T' : TypeId} {pos : String} {af : Array Edge}
theorem run_equalIn_snil {T0 E : TypeId} (h : P.underlying T0 = some (.slice E)) (n : Nat) (a : Addr) (l c l' c' : Nat) (w : World) : (Op.equalIn (n + 1) T0 (.slice (some a) l c) (.slice none l' c')).run P w = .ok false w := by
  simp [Op.equalIn, run_underlying h]
theorem run_equal_snil {T0 E : TypeId} (h : P.underlying T0 = some (.slice E)) (a : Addr) (l c l' c' : Nat) (w : World) : (Op.equal T0 (.slice (some a) l c) (.slice none l' c')).run P w = .ok false w := by
  unfold Op.equal
  exact run_equalIn_snil h 9999 a l c l' c' w
theorem run_eqGuard_slice {op : BinOp} {t : TypeId} {x y : Operand} {a a' : Option Addr} {l c l' c' : Nat} (w : World) : (eqGuard op t x y (.slice a l c) (.slice a' l' c')).run P w = .ok () w := by
  unfold eqGuard; cases op <;> rfl
theorem k_eqSnil {x y : Operand} {a : Addr} {l c l' c' E s sy : Nat} {T'' : TypeId} [hT : Slc P T' E s sy] (hx : ev ρ x = .slice (some a) l c) (hy : ev ρ y = .slice none l' c') (h : RR P S ops K rest (upd ρ d (.bool false)) w) : RR P S ops K ((⟨some d, .binOp .eql T' x y T'', T, pos, af, none⟩, b) :: rest) ρ w :=
  rr_pure rfl (fun w' => by
    simp only [execOp, hx, hy]
    rw [Sem.run_bind_ok (v := .bool false) (w' := w')]
    · rfl
    · rw [Sem.run_bind_ok (run_eqGuard_slice w')]
      show (do pure (Value.bool (← Op.equal T' (.slice (some a) l c) (.slice none l' c'))) : Sem Value).run P w' = _
      rw [Sem.run_bind_ok (run_equal_snil hT.un a l c l' c' w')]; rfl) h
theorem k_max {x y : Operand} {T1 T2 : TypeId} {m m' : Int} (hx : ev ρ x = .int .i64 m) (hy : ev ρ y = .int .i64 m') (h : RR P S ops K rest (upd ρ d (.int .i64 (max m m'))) w) :
    RR P S ops K ((⟨some d, .call ⟨.builtin .max, #[x, y], #[T1, T2]⟩, T, pos, af, none⟩, b) :: rest) ρ w :=
  rr_pure rfl (fun w' => by simp [execOp, resolve, invoke, builtin, Builtin.max_, Builtin.max2, hx, hy]; split <;> omega) h
theorem k_lit0 {T1 E y : Nat} {z : Value} [hT : Slc P T1 E 1 y] [hz : Zro P E z] (h : ∀ g w', New w w' g E [] → (kf = true → S w → S w') ∧ RR P S ops K rest (upd ρ d (.slice (some ⟨g, 0, none⟩) 0 0)) w') :
    RR P S ops K ((⟨some d, .buildSlice T1 0 #[], T, pos, af, none⟩, some kf) :: rest) ρ w :=
  k_lit (E := E) (s := 1) (z := z) (cs := #[]) rfl (by simp [Instr.fill]) h
end
end Go.W
namespace Go.Proofs.YthhfjagnmhhapaaGreat
open Go.W Go.PM
theorem clone_spec {xs : List Int} {a : Addr} {cap : Nat} {w : World} (hx : Sl w (some a) (u16L xs)) (h0 : 0 < xs.length) (hl : xs.length ≤ 512) :
    CallsR Tryz.prog 90 #[.slice (some a) xs.length cap] w fun v w' => ∃ g c, v = .slice (ba g) xs.length c ∧ w.heap.size ≤ g ∧ Own w' 0 70 1 (ba g) xs.length c (u16L xs) ∧ Ex w w' := by
  refine callsR_of (args := [_]) Tryz.func90 rfl rfl ?_
  repeat' (first | (refine k_eqSnil rfl rfl ?_) | (refine k_lit0 (fun g w1 hn1 => ⟨fun _ _ => trivial, ?_⟩)) | (refine k_pure rfl ?_) | (refine then_normal ?_) | (refine cw_seq ?_) | (refine cw_region rfl ?_) | (refine rr_nil ?_) | (refine cw_cond_false rfl ?_) | (refine cw_skip ?_))
  refine k_append (z := .int .u16 0) (s := 1) (vs := []) (lo := w.heap.size) (news := u16L xs) rfl rfl rfl rfl (hn1.blk.own rfl (Nat.zero_le _) hn1.lo) (hx.ext hn1.ex) (hx.plain (by simp; omega)) (by simp) (all_one (fun _ => rfl) _) (by omega) (by omega) hn1.ex.size ?_
  intro a' c' w2 ho hg hA
  refine ⟨fun _ _ => trivial, ?_⟩
  rw [Nat.zero_add] at ho ⊢
  obtain ⟨g', rfl⟩ := ho.baPos h0
  have hlo := (ho.lo _ rfl).1
  simp only at hlo
  have hE : Ex w w2 := grown_ex hg hn1.ex (by rintro _ ⟨⟩; exact hn1.lo)
  repeat' (first | (refine k_pure rfl ?_) | (refine then_normal ?_) | (refine rr_nil ?_) | (refine cw_ret ?_))
  exact ret1 rfl (rt rfl) ⟨g', c', rfl, hlo, ho.mono (Nat.zero_le _), hE⟩
end Go.Proofs.YthhfjagnmhhapaaGreat

/- Partitions by trees of parents (plain), and numbers by exponents. No program in sight. -/
namespace Go.PM
structure UF (n : Nat) (ps : List Int) (c d : Nat → Nat) : Prop where
  len : ps.length = n
  rng : ∀ x, x < n → 0 ≤ ps.getD x 0 ∧ ps.getD x 0 < n
  cls : ∀ x, x < n → c (ps.getD x 0).toNat = c x
  clt : ∀ x, x < n → c x < n
  root : ∀ x, x < n → ps.getD x 0 = x → c x = x
  dep : ∀ x, x < n → ps.getD x 0 ≠ x → d (ps.getD x 0).toNat < d x
theorem UF.top {n : Nat} {ps : List Int} {c d : Nat → Nat} (h : UF n ps c d) : ∀ x, x < n → ps.getD (c x) 0 = c x := by
  have key : ∀ k x, d x ≤ k → x < n → ps.getD (c x) 0 = c x := by
    intro k
    induction k with
    | zero =>
      intro x hd hx
      by_cases e : ps.getD x 0 = x
      · have := h.root x hx e; rw [this]; exact e
      · have := h.dep x hx e; omega
    | succ k ih =>
      intro x hd hx
      by_cases e : ps.getD x 0 = x
      · have := h.root x hx e; rw [this]; exact e
      · have h1 := h.dep x hx e
        have h2 := h.rng x hx
        have h3 := h.cls x hx
        rw [← h3]
        exact ih _ (by omega) (by omega)
  intro x hx; exact key _ x (Nat.le_refl _) hx
theorem UF.idem {n : Nat} {ps : List Int} {c d : Nat → Nat} (h : UF n ps c d) {x : Nat} (hx : x < n) : c (c x) = c x := h.root _ (h.clt x hx) (h.top x hx)
theorem getD_set' {α : Type} {l : List α} {i j : Nat} {v d : α} (hi : i < l.length) : (l.set i v).getD j d = if j = i then v else l.getD j d := by
  rw [List.getD_eq_getElem?_getD, List.getElem?_set]
  by_cases h : j = i
  · subst h; simp [hi]
  · rw [if_neg (fun e => h e.symm), if_neg h, ← List.getD_eq_getElem?_getD]
/-- path halving -/
theorem UF.halve {n : Nat} {ps : List Int} {c d : Nat → Nat} (h : UF n ps c d) {x : Nat} (hx : x < n) : UF n (ps.set x (ps.getD (ps.getD x 0).toNat 0)) c d := by
  have hr := h.rng x hx
  have hy : (ps.getD x 0).toNat < n := by omega
  have hr2 := h.rng _ hy
  have hl : x < ps.length := by rw [h.len]; exact hx
  refine ⟨by rw [List.length_set, h.len], fun z hz => ?_, fun z hz => ?_, h.clt, fun z hz e => ?_, fun z hz e => ?_⟩
  · rw [getD_set' hl]; split
    · exact hr2
    · exact h.rng z hz
  · rw [getD_set' hl]; split
    · rename_i e; subst e; rw [h.cls _ hy, h.cls _ hx]
    · exact h.cls z hz
  · rw [getD_set' hl] at e; split at e
    · rename_i e'; subst e'
      by_cases e1 : ps.getD z 0 = z
      · exact h.root z hz e1
      · have h1 := h.dep z hz e1
        by_cases e2 : ps.getD (ps.getD z 0).toNat 0 = ((ps.getD z 0).toNat : Nat)
        · exfalso; apply e1; rw [e] at e2; omega
        · have h2 := h.dep _ hy e2
          rw [e] at h2; simp only [Int.toNat_natCast] at h2; omega
    · exact h.root z hz e
  · rw [getD_set' hl] at e ⊢; split at e
    · rename_i e'; subst e'; rw [if_pos rfl]
      by_cases e1 : ps.getD z 0 = z
      · exfalso; apply e; rw [e1]; simp only [Int.toNat_natCast]; exact e1
      · have h1 := h.dep z hz e1
        by_cases e2 : ps.getD (ps.getD z 0).toNat 0 = ((ps.getD z 0).toNat : Nat)
        · rw [e2]; simp only [Int.toNat_natCast]; exact h1
        · have h2 := h.dep _ hy e2; omega
    · rename_i e'; rw [if_neg e']; exact h.dep z hz e
theorem UF.step_lt {n : Nat} {ps : List Int} {c d : Nat → Nat} (h : UF n ps c d) {x : Nat} (hx : x < n) (hne : ps.getD x 0 ≠ x) :
    (ps.getD (ps.getD x 0).toNat 0).toNat < n ∧ c (ps.getD (ps.getD x 0).toNat 0).toNat = c x ∧ d (ps.getD (ps.getD x 0).toNat 0).toNat < d x := by
  have hr := h.rng x hx
  have hy : (ps.getD x 0).toNat < n := by omega
  have hr2 := h.rng _ hy
  refine ⟨by omega, by rw [h.cls _ hy, h.cls _ hx], ?_⟩
  have h1 := h.dep x hx hne
  by_cases e2 : ps.getD (ps.getD x 0).toNat 0 = ((ps.getD x 0).toNat : Nat)
  · rw [e2]; simp only [Int.toNat_natCast]; exact h1
  · have h2 := h.dep _ hy e2; omega
/-- joining the classes of two points -/
def jn (c : Nat → Nat) (x y : Nat) : Nat → Nat := fun z => if c z = c x then c y else c z
theorem UF.join {n : Nat} {ps : List Int} {c d : Nat → Nat} (h : UF n ps c d) {x y : Nat} (hx : x < n) (hy : y < n) : ∃ d', UF n (ps.set (c x) (c y : Int)) (jn c x y) d' := by
  have hcx := h.clt x hx
  have hcy := h.clt y hy
  have hl : c x < ps.length := by rw [h.len]; exact hcx
  have ix := h.idem hx
  have iy := h.idem hy
  by_cases e : c x = c y
  · have hset : ps.set (c x) (c y : Int) = ps := by
      apply List.ext_getElem?
      intro i
      rw [List.getElem?_set]
      split
      · rename_i hi; subst hi
        try rw [if_pos hl]
        have := h.top x hx
        rw [List.getD_eq_getElem?_getD, List.getElem?_eq_getElem hl, Option.getD_some] at this
        rw [List.getElem?_eq_getElem hl, this, e]
      · rfl
    have hc : jn c x y = c := by funext z; unfold jn; split; rename_i h1; rw [h1, e]; rfl
    rw [hset, hc]; exact ⟨d, h⟩
  · refine ⟨fun z => if c z = c x then d z + d (c y) + 1 else d z, ⟨by rw [List.length_set, h.len], fun z hz => ?_, fun z hz => ?_, fun z hz => ?_, fun z hz e' => ?_, fun z hz e' => ?_⟩⟩
    · rw [getD_set' hl]; split
      · omega
      · exact h.rng z hz
    · rw [getD_set' hl]; split
      · rename_i ez; subst ez
        unfold jn
        simp only [Int.toNat_natCast]
        rw [iy, ix, if_neg (fun e' => e e'.symm), if_pos rfl]
      · unfold jn; rw [h.cls z hz]
    · unfold jn; split; exact hcy; exact h.clt z hz
    · rw [getD_set' hl] at e'; split at e'
      · rename_i ez; subst ez; exfalso; apply e; omega
      · rename_i ez
        have hr := h.root z hz e'
        unfold jn; rw [if_neg, hr]
        intro hh; rw [hr] at hh; exact ez hh
    · rw [getD_set' hl] at e' ⊢; split at e'
      · rename_i ez; subst ez; rw [if_pos rfl]
        simp only [Int.toNat_natCast]
        rw [iy, ix, if_neg (fun e' => e e'.symm), if_pos rfl]; omega
      · rename_i ez; rw [if_neg ez]
        have h1 := h.dep z hz e'
        have h2 := h.cls z hz
        rw [h2]; split <;> omega
theorem uf_one (n : Nat) : UF n (idList n) (fun x => x) (fun _ => 0) :=
  ⟨idList_length n, fun x hx => by rw [idList_getD hx]; omega, fun x hx => by rw [idList_getD hx]; simp, fun x hx => hx, fun _ _ _ => rfl, fun x hx e => absurd (idList_getD hx) e⟩
/-- what joining a permutation's points does to the classes -/
structure Jn (n k : Nat) (p : List Int) (c c' : Nat → Nat) : Prop where
  keep : ∀ x y, x < n → y < n → c x = c y → c' x = c' y
  img : ∀ x, x < k → c' (ap p x).toNat = c' x
  min : ∀ E : Nat → Nat → Prop, (∀ x, x < n → E x x) → (∀ x y, x < n → y < n → E x y → E y x) → (∀ x y z, x < n → y < n → z < n → E x y → E y z → E x z) → (∀ x y, x < n → y < n → c x = c y → E x y) → (∀ x, x < k → E x (ap p x).toNat) →
    ∀ x y, x < n → y < n → c' x = c' y → E x y
theorem jn_zero (n : Nat) (p : List Int) (c : Nat → Nat) : Jn n 0 p c c := ⟨fun _ _ _ _ h => h, fun x hx => absurd hx (by omega), fun _ _ _ _ h _ x y hx hy => h x y hx hy⟩
theorem Jn.step {n k : Nat} {p : List Int} {c c' : Nat → Nat} (h : Jn n k p c c') (hk : k < n) (hp : ∀ x, x ≤ k → (ap p x).toNat < n) : Jn n (k + 1) p c (jn c' k (ap p k).toNat) := by
  refine ⟨fun x y hx hy e => ?_, fun x hx => ?_, fun E r s t h1 h2 x y hx hy e => ?_⟩
  · unfold jn; rw [h.keep x y hx hy e]
  · by_cases e : x = k
    · subst e; unfold jn; rw [if_pos rfl]; split <;> rfl
    · unfold jn; rw [h.img x (by omega)]
  · have hm := h.min E r s t h1 (fun x hx => h2 x (by omega))
    have hq := hp k (Nat.le_refl _)
    have hE := h2 k (by omega)
    unfold jn at e
    split at e
    · rename_i e1
      have a1 := hm x k hx hk e1
      split at e
      · rename_i e2
        exact t x k y hx hk hy a1 (s y k hy hk (hm y k hy hk e2))
      · exact t x k y hx hk hy a1 (t k _ y hk hq hy hE (hm _ y hq hy e))
    · split at e
      · rename_i e2
        exact t x _ y hx hq hy (hm x _ hx hq e) (t _ k y hq hk hy (s k _ hk hq hE) (s y k hy hk (hm y k hy hk e2)))
      · exact hm x y hx hy e
/-- exponents -/
def numb (f : Nat → Nat) : Nat → Nat
  | 0 => 1
  | k + 1 => numb f k * k ^ f k
theorem numb_congr {f g : Nat → Nat} : ∀ k, (∀ p, p < k → f p = g p) → numb f k = numb g k
  | 0, _ => rfl
  | k + 1, h => by rw [numb, numb, numb_congr k (fun p hp => h p (by omega)), h k (by omega)]
theorem numb_add (f g : Nat → Nat) : ∀ k, numb (fun p => f p + g p) k = numb f k * numb g k
  | 0 => rfl
  | k + 1 => by
    rw [numb, numb, numb, numb_add f g k, Nat.pow_add]
    simp only [Nat.mul_assoc, Nat.mul_comm, Nat.mul_left_comm]
theorem numb_at {f : Nat → Nat} {p u : Nat} : ∀ k, p < k → numb (fun q => if q = p then f q + u else f q) k = numb f k * p ^ u
  | 0, h => by omega
  | k + 1, h => by
    rw [numb, numb]
    by_cases e : k = p
    · subst e
      rw [if_pos rfl, numb_congr k (g := f) (fun q hq => if_neg (by omega)), Nat.pow_add, Nat.mul_assoc]
    · rw [if_neg e, numb_at k (by omega)]
      simp only [Nat.mul_comm, Nat.mul_left_comm]
def Rep (e : List Int) (a b : Nat) : Prop := e.length = 513 ∧ ∃ f g : Nat → Nat, (∀ p, p < 513 → e.getD p 0 = (f p : Int) - (g p : Int)) ∧ numb f 513 = a ∧ numb g 513 = b
theorem rep_zero : Rep (List.replicate 513 0) 1 1 := by
  have h1 : numb (fun _ => 0) 513 = 1 := by
    have : ∀ k, numb (fun _ => 0) k = 1 := fun k => by
      induction k with
      | zero => rfl
      | succ k ih => rw [numb, ih, Nat.pow_zero]
    exact this _
  refine ⟨List.length_replicate, fun _ => 0, fun _ => 0, fun p hp => ?_, h1, h1⟩
  rw [List.getD_eq_getElem?_getD, List.getElem?_replicate, if_pos hp]; rfl
theorem Rep.eq {e : List Int} {a b a' b' : Nat} (h : Rep e a b) (h' : Rep e a' b') : a * b' = a' * b := by
  obtain ⟨_, f, g, h1, rfl, rfl⟩ := h
  obtain ⟨_, f', g', h1', rfl, rfl⟩ := h'
  rw [← numb_add, ← numb_add]
  apply numb_congr
  intro p hp
  have e1 := h1 p hp
  have e2 := h1' p hp
  omega
theorem Rep.step {e : List Int} {a b : Nat} (h : Rep e a b) {p u v : Nat} (hp : p < 513) : Rep (e.set p (e.getD p 0 + ((u : Int) - v))) (a * p ^ u) (b * p ^ v) := by
  obtain ⟨hl, f, g, h1, rfl, rfl⟩ := h
  refine ⟨by rw [List.length_set, hl], fun q => if q = p then f q + u else f q, fun q => if q = p then g q + v else g q, fun q hq => ?_, numb_at _ hp, numb_at _ hp⟩
  rw [getD_set' (by rw [hl]; exact hp)]
  have := h1 q hq
  by_cases e : q = p
  · subst e; simp only [if_true]; omega
  · simp only [if_neg e]; exact this
def Bd (e : List Int) (M : Nat) : Prop := ∀ p, -(M : Int) ≤ e.getD p 0 ∧ e.getD p 0 ≤ M
theorem Bd.step {e : List Int} {M T p : Nat} {t : Int} (h : Bd e M) (ht : -(T : Int) ≤ t ∧ t ≤ T) (hp : p < e.length) : Bd (e.set p (e.getD p 0 + t)) (M + T) := by
  intro q
  rw [getD_set' hp]
  have h1 := h q
  have h2 := h p
  split <;> omega
theorem Bd.mono {e : List Int} {M M' : Nat} (h : Bd e M) (hm : M ≤ M') : Bd e M' := fun p => by have := h p; omega
theorem bd_zero (k : Nat) : Bd (List.replicate k 0) 0 := fun p => by
  rw [List.getD_eq_getElem?_getD, List.getElem?_replicate]; split <;> simp
end Go.PM

