
import Derived.Test.YthhfjagnmhhapaaA01
import Derived.Test.YthhfjagnmhhapaaA02
import Derived.Test.YthhfjagnmhhapaaA03
import Derived.Test.YthhfjagnmhhapaaA04
import Derived.Test.YthhfjagnmhhapaaA05
import Derived.Test.YthhfjagnmhhapaaA06
import Derived.Test.YthhfjagnmhhapaaA07
import Derived.Test.YthhfjagnmhhapaaA08

/- Rows of bits in words. No program in sight. -/
namespace Go.PM
def bitsW (ws : List Nat) : Nat → Bool := fun i => (ws.getD (i / 64) 0).testBit (i % 64)
def xorW (ws us : List Nat) : Nat → List Nat
  | 0 => ws
  | k + 1 => (xorW ws us k).set k (ws.getD k 0 ^^^ us.getD k 0)
theorem xorW_len (ws us : List Nat) : ∀ k, (xorW ws us k).length = ws.length
  | 0 => rfl
  | k + 1 => by rw [xorW, List.length_set, xorW_len ws us k]
theorem xorW_getD (ws us : List Nat) : ∀ k, k ≤ ws.length → ∀ i, (xorW ws us k).getD i 0 = if i < k then ws.getD i 0 ^^^ us.getD i 0 else ws.getD i 0
  | 0, _, i => by rw [if_neg (by omega)]; rfl
  | k + 1, hk, i => by
    rw [xorW, List.getD_eq_getElem?_getD, List.getElem?_set, xorW_len]
    by_cases e : k = i
    · subst e; rw [if_pos rfl, if_pos (by omega), if_pos (by omega)]; rfl
    · rw [if_neg e, ← List.getD_eq_getElem?_getD, xorW_getD ws us k (by omega) i]
      by_cases h : i < k
      · rw [if_pos h, if_pos (by omega)]
      · rw [if_neg h, if_neg (by omega)]
theorem bits_xor {ws us : List Nat} (h : ws.length = 4) (h' : us.length = 4) : bitsW (xorW ws us 4) = vx (bitsW ws) (bitsW us) := by
  funext i
  show ((xorW ws us 4).getD (i / 64) 0).testBit (i % 64) = ((ws.getD (i / 64) 0).testBit (i % 64) ^^ (us.getD (i / 64) 0).testBit (i % 64))
  rw [xorW_getD ws us 4 (by omega)]
  by_cases hi : i / 64 < 4
  · rw [if_pos hi, Nat.testBit_xor]
  · rw [if_neg hi]
    have e1 : ws.getD (i / 64) 0 = 0 := by rw [List.getD_eq_getElem?_getD, List.getElem?_eq_none (by omega)]; rfl
    have e2 : us.getD (i / 64) 0 = 0 := by rw [List.getD_eq_getElem?_getD, List.getElem?_eq_none (by omega)]; rfl
    rw [e1, e2]; simp
theorem bits_big {ws : List Nat} (h : ws.length = 4) {i : Nat} (hi : 256 ≤ i) : bitsW ws i = false := by
  unfold bitsW
  have e1 : ws.getD (i / 64) 0 = 0 := by rw [List.getD_eq_getElem?_getD, List.getElem?_eq_none (by omega)]; rfl
  rw [e1]; simp
theorem bits_zero : bitsW (List.replicate 4 0) = v0 := by
  funext i
  unfold bitsW v0
  rw [List.getD_eq_getElem?_getD, List.getElem?_replicate]; split <;> simp
/-- flipping bit o -/
def flipW (ws : List Nat) (o : Nat) : List Nat := ws.set (o / 64) (ws.getD (o / 64) 0 ^^^ (1 <<< (o % 64)))
theorem flipW_len (ws : List Nat) (o : Nat) : (flipW ws o).length = ws.length := by simp [flipW]
theorem bits_flip {ws : List Nat} {o : Nat} (h : o / 64 < ws.length) (i : Nat) : bitsW (flipW ws o) i = (bitsW ws i ^^ decide (i = o)) := by
  unfold bitsW flipW
  rw [List.getD_eq_getElem?_getD, List.getElem?_set]
  by_cases e : o / 64 = i / 64
  · rw [if_pos e, if_pos h]
    simp only [Option.getD_some]
    rw [Nat.testBit_xor, e, Nat.one_shiftLeft, Nat.testBit_two_pow]
    congr 1
    by_cases e2 : i = o
    · subst e2; simp
    · have : o % 64 ≠ i % 64 := by omega
      simp [e2, this]
  · rw [if_neg e, ← List.getD_eq_getElem?_getD]
    have : i ≠ o := by rintro rfl; exact e rfl
    simp [this]
theorem Ech.congr {B B' : List (Nat → Bool)} (h : Ech B) (he : ∀ b, b ∈ B ↔ b ∈ B') : Ech B' := by
  intro v hv
  rcases h v (Sp.mono (fun b hb => (he b).2 hb) hv) with h1 | ⟨b, hb, r⟩
  · exact .inl h1
  · exact .inr ⟨b, (he b).1 hb, r⟩
theorem lead_vx {v u : Nat → Bool} {i : Nat} (h : Lead v i) (h' : Lead u i) : ∀ j, i ≤ j → vx v u j = false := by
  intro j hj
  unfold vx
  by_cases e : j = i
  · subst e; rw [h.1, h'.1]; rfl
  · rw [h.2 j (by omega), h'.2 j (by omega)]; rfl
end Go.PM

namespace Go.W
theorem findK_no {k : Int} : ∀ {l : List (Int × Value)} {i : Nat}, findK k l i = none → ∀ p ∈ l, p.1 ≠ k
  | [], _, _, p, hp => by simp at hp
  | q :: l, i, h, p, hp => by
    rw [findK] at h
    split at h
    · simp at h
    · rename_i hq
      rcases List.mem_cons.1 hp with rfl | hp
      · exact hq
      · exact findK_no h p hp
theorem findK_yes {k : Int} : ∀ {l : List (Int × Value)} {i j : Nat} {v : Value}, findK k l i = some (j, v) → (k, v) ∈ l
  | [], _, _, _, h => by simp [findK] at h
  | q :: l, i, j, v, h => by
    rw [findK] at h
    split at h
    · rename_i hq
      simp only [Option.some.injEq, Prod.mk.injEq] at h
      obtain ⟨_, rfl⟩ := h
      rw [← hq]; exact List.mem_cons_self
    · exact List.mem_cons_of_mem _ (findK_yes h)
end Go.W
namespace Go.PM
def W4 (ws : List Nat) : Prop := ws.length = 4 ∧ ∀ i, ws.getD i 0 < 18446744073709551616
theorem W4.xor {ws us : List Nat} (h : W4 ws) (h' : W4 us) : W4 (xorW ws us 4) := by
  refine ⟨by rw [xorW_len]; exact h.1, fun i => ?_⟩
  rw [xorW_getD ws us 4 (by rw [h.1]; omega)]
  split
  · exact Nat.xor_lt_two_pow (n := 64) (h.2 i) (h'.2 i)
  · exact h.2 i
theorem bit_and {m i : Nat} : (m >>> i &&& 1 = 1) ↔ m.testBit i = true := by
  rw [Nat.and_one_is_mod, Nat.shiftRight_eq_div_pow, Nat.testBit_eq_decide_div_mod_eq]; simp
end Go.PM
namespace Go.Proofs.Ythhfjagnmhhapaa
open Go.W Go.PM
theorem leading_spec {ws : List Nat} {w : World} (hw : W4 ws) : CallsR Try.prog 151 #[.agg (wordsL ws).toArray] w fun v w' => ((v = .int .i64 (-1) ∧ bitsW ws = v0) ∨ ∃ i : Nat, i < 256 ∧ v = .int .i64 (i : Int) ∧ Lead (bitsW ws) i) ∧ Ex w w' := by
  refine callsR_of (args := [_]) Try.func151 rfl rfl ?_
  have hl := hw.1
  repeat' (first | (refine k_boxA rfl (fun g w1 hn1 => ⟨fun _ _ => trivial, ?_⟩)) | (refine k_pure rfl ?_) | (refine then_normal ?_) | (refine cw_seq ?_) | (refine cw_region rfl ?_) | (refine rr_nil ?_) | (refine cw_block ?_))
  refine cw_loop (ι := Nat) [2, 3, 4, 5, 6, 7, 8, 9, 10, 11, 12, 13, 14, 15, 16, 17] (fun s => [(3, .int .i64 ((s : Int) - 1))]) (fun s w' => s ≤ 256 ∧ Ex w w' ∧ Blk w' g 191 (wordsL ws) ∧ ∀ j, s ≤ j → bitsW ws j = false) (fun s => s)
    256 ⟨rfl, trivial⟩ ⟨Nat.le_refl _, hn1.ex, hn1.blk, fun j hj => bits_big hl hj⟩ ?_
  rintro k ξ w2 ⟨hk, hE2, hb2, hz⟩
  show CW _ _ _ _ (over [(3, .int .i64 ((k : Int) - 1))] _) w2
  repeat' (first | (refine k_pure rfl ?_) | (refine then_normal ?_) | (refine cw_seq ?_) | (refine cw_region rfl ?_) | (refine rr_nil ?_) | (refine cw_cond_dec rfl (fun hc => ?_) (fun hc => ?_)) | (refine cw_block ?_) | (refine cw_exit ?_) | (refine then_exit ?_) | (refine in_exit ?_) | (refine cw_ret ?_) | (refine cw_skip ?_))
  · obtain ⟨i, rfl⟩ : ∃ i, k = i + 1 := ⟨k - 1, by omega⟩
    have ei : ((i + 1 : Nat) : Int) - 1 = (i : Int) := by omega
    rw [ei] at *
    obtain ⟨q, hq⟩ : ∃ q, q = i / 64 := ⟨_, rfl⟩
    have hq' : (i : Int) / 64 = (q : Int) := by omega
    obtain ⟨r, hr⟩ : ∃ r, r = i % 64 := ⟨_, rfl⟩
    have hr' : (i : Int) % 64 = (r : Int) := by omega
    have hwq := hw.2 q
    repeat' (first | (refine k_quoI rfl rfl (by omega) (by omega) (by omega) ?_) | (refine k_indexA1 (j := q) rfl (congrArg _ hq') (by omega) ?_) | (refine k_loadN (j := q) rfl hb2.sl (by omega) ?_) | (refine k_rem rfl rfl (by omega) (by omega) ?_) | (refine k_shrN (j := r) rfl (congrArg _ hr') (.inr (by show r ≤ 64; omega)) ?_) | (refine k_andN (m' := 1) rfl rfl rfl (Nat.lt_of_le_of_lt (Nat.shiftRight_le ..) hwq) (by decide) ?_) | (refine k_pure rfl ?_) | (refine then_normal ?_) | (refine cw_seq ?_) | (refine cw_region rfl ?_) | (refine rr_nil ?_) | (refine k_subI rfl rfl (by omega) (by omega) ?_) | (refine cw_cond_dec rfl (fun hc => ?_) (fun hc => ?_)) | (refine in_normal ?_) | (refine cw_ret ?_) | (refine then_ret ?_) | (refine in_ret ?_) | (refine cw_skip ?_))
    · have hb : bitsW ws i = true := by
        unfold bitsW; rw [← hq, ← hr]; exact bit_and.1 (by omega)
      refine ret1 rfl (rt rfl) ⟨.inr ⟨i, by omega, rfl, hb, fun j hj => hz j (by omega)⟩, hE2⟩
    · have hb : bitsW ws i = false := by
        cases hbb : bitsW ws i with
        | false => rfl
        | true =>
          exfalso
          unfold bitsW at hbb
          rw [← hq, ← hr] at hbb
          have := bit_and.2 hbb
          omega
      refine ⟨⟨i, ⟨by omega, hE2, hb2, fun j hj => ?_⟩, by omega, rfl, trivial⟩, (by (repeat (first | exact agree_mask _ _ _ | refine agree_upd rfl ?_ | refine agree_updO rfl ?_ | refine agree_overIn rfl ?_ | refine agree_maskIn rfl ?_)))⟩
      by_cases e : j = i
      · subst e; exact hb
      · exact hz j (by omega)
  · obtain rfl : k = 0 := by omega
    refine ret1 rfl (rt rfl) ⟨.inl ⟨rfl, ?_⟩, hE2⟩
    funext j; exact hz j (Nat.zero_le _)
theorem plus_spec {ws us : List Nat} {w : World} (hw : W4 ws) (hu : W4 us) : CallsR Try.prog 152 #[.agg (wordsL ws).toArray, .agg (wordsL us).toArray] w fun v w' => v = .agg (wordsL (xorW ws us 4)).toArray ∧ Ex w w' := by
  refine callsR_of (args := [_, _]) Try.func152 rfl rfl ?_
  have hl := hw.1
  have hl' := hu.1
  repeat' (first | (refine k_boxA (vs := wordsL ws) rfl (fun g w1 hn1 => ⟨fun _ _ => trivial, ?_⟩)) | (refine k_boxA (vs := wordsL us) rfl (fun g2 w2 hn2 => ⟨fun _ _ => trivial, ?_⟩)) | (refine k_allocA (vs := wordsL [0, 0, 0, 0]) (fun g3 w3 hn3 => ⟨fun _ _ => trivial, ?_⟩)) | (refine then_normal ?_) | (refine cw_seq ?_) | (refine cw_region rfl ?_) | (refine rr_nil ?_))
  have hb2 := hn2.blk.ext hn3.ex
  have hb1 := (hn1.blk.ext hn2.ex).ext hn3.ex
  have hE3 : Ex w w3 := (hn1.ex.trans hn2.ex).trans hn3.ex
  have z1 := hn1.lo; have z1' := hn1.hi; have z2 := hn2.lo; have z2' := hn2.hi; have z3 := hn3.lo; have z3' := hn3.hi
  have y1 := hn1.ex.size; have y2 := hn2.ex.size
  repeat' (first | (refine k_loadCA rfl hb2 (by simp [hl']) ?_) | (refine k_pure rfl ?_) | (refine then_normal ?_) | (refine rr_nil ?_) | (refine cw_block ?_))
  refine cw_loop (ι := Nat) [5, 6, 8, 9, 10, 11, 12, 13, 14, 15, 16, 17, 18] (fun s => [(8, .int .i64 (s : Int))]) (fun s w' => s ≤ 4 ∧ Ex w w' ∧ Blk w' g 191 (wordsL (xorW ws us s)) ∧ Blk w' g3 191 (wordsL [0, 0, 0, 0])) (fun s => 4 - s)
    0 ⟨rfl, trivial⟩ ⟨Nat.zero_le _, hE3, hb1, hn3.blk⟩ ?_
  rintro k ξ w4 ⟨hk, hE4, hb4, hb4'⟩
  show CW _ _ _ _ (over [(8, .int .i64 (k : Int))] _) w4
  have hxl := xorW_len ws us k
  have hgu : k < 4 → (wordsL us)[k]? = some (.int .u64 ((us.getD k 0 : Nat) : Int)) := fun h => by
    unfold wordsL; rw [List.getElem?_map, List.getD_eq_getElem?_getD, List.getElem?_eq_getElem (by omega)]; rfl
  have hgx : (xorW ws us k).getD k 0 = ws.getD k 0 := by
    by_cases h : k ≤ ws.length
    · rw [xorW_getD ws us k h, if_neg (Nat.lt_irrefl _)]
    · omega
  repeat' (first | (refine k_indexV (j := k) rfl rfl (by omega) (hgu (by omega)) ?_) | (refine k_indexA1 (j := k) rfl rfl (by omega) ?_) | (refine k_loadN (j := k) rfl hb4.sl (by omega) ?_) | (refine k_xorN rfl rfl rfl (by rw [hgx]; exact hw.2 k) (hu.2 k) ?_) | (refine k_storeN (j := k) rfl rfl hb4 (by omega) (fun w5 hc5 hb5 => ⟨fun _ _ => trivial, ?_⟩)) | (refine k_pure rfl ?_) | (refine then_normal ?_) | (refine cw_seq ?_) | (refine cw_region rfl ?_) | (refine rr_nil ?_) | (refine k_addI rfl rfl (by omega) (by omega) ?_) | (refine cw_cond_dec rfl (fun hc => ?_) (fun hc => ?_)) | (refine cw_block ?_) | (refine cw_exit ?_) | (refine then_exit ?_) | (refine in_exit ?_) | (refine in_normal ?_) | (refine cw_skip ?_))
  · refine ⟨⟨k + 1, ⟨by omega, hE4.chg hc5 z1, ?_, hb4'.chg hc5 (by omega)⟩, by omega, rfl, trivial⟩, (by (repeat (first | exact agree_mask _ _ _ | refine agree_upd rfl ?_ | refine agree_updO rfl ?_ | refine agree_overIn rfl ?_ | refine agree_maskIn rfl ?_)))⟩
    rw [xorW, ← hgx]; exact hb5
  · obtain rfl : k = 4 := by omega
    repeat' (first | (refine k_loadCA rfl hb4 (by simp [hxl, hl]) ?_) | (refine k_storeV rfl rfl (by simp [hxl, hl]) (all_one (fun _ => rfl) _) hb4' rfl (fun w5 hc5 hb5 => ⟨fun _ _ => trivial, ?_⟩)) | (refine then_normal ?_) | (refine rr_nil ?_) | (refine cw_ret ?_))
    exact ret1 rfl (rc rfl (by simp [hxl, hl]) hb5) ⟨rfl, hE4.chg hc5 (by omega)⟩
end Go.Proofs.Ythhfjagnmhhapaa

/- Signs on classes by cycles: plain. -/
namespace Go.PM
def flipAt (p : List Int) (x : Nat) : Bool := leastB (cyc p x) && decide (per p x % 2 = 0)
def sgO (p : List Int) (f : Nat → Int) (o : Int) : Nat → Bool
  | 0 => false
  | k + 1 => sgO p f o k ^^ (flipAt p k && decide (f k = o))
theorem evTo_snoc (l : List (List Int)) (x : List Int) : ∀ k, k ≤ l.length → evTo (l ++ [x]) k = evTo l k
  | 0, _ => rfl
  | k + 1, h => by
    rw [evTo, evTo, evTo_snoc l x k (by omega)]
    have : (l ++ [x]).getD k [] = l.getD k [] := by rw [List.getD_eq_getElem?_getD, List.getElem?_append_left (by omega), ← List.getD_eq_getElem?_getD]
    rw [this]
def oddTo (p : List Int) : Nat → Bool
  | 0 => false
  | k + 1 => oddTo p k ^^ flipAt p k
theorem ev_odd {p : List Int} (hp : IsPerm p) : ∀ k, k ≤ p.length → evTo (cycR p k) (cycR p k).length = !oddTo p k
  | 0, _ => rfl
  | k + 1, hk => by
    have ih := ev_odd hp k (by omega)
    rw [cycR, oddTo]
    by_cases h : cycSel p k = true
    · rw [if_pos h]
      unfold cycSel at h
      rw [Bool.and_eq_true] at h
      rw [List.length_append, List.length_singleton, evTo, evTo_snoc _ _ _ (Nat.le_refl _), ih]
      have e : (cycR p k ++ [cyc p k]).getD (cycR p k).length [] = cyc p k := by simp
      rw [e]
      unfold flipAt per
      rw [h.2]
      by_cases h2 : (cyc p k).length % 2 = 0
      · rw [if_pos h2, decide_eq_true h2]; cases oddTo p k <;> rfl
      · rw [if_neg h2, decide_eq_false h2]; cases oddTo p k <;> rfl
    · rw [if_neg h, ih]
      have hf : flipAt p k = false := by
        unfold cycSel at h
        unfold flipAt
        cases hl : leastB (cyc p k) with
        | false => rfl
        | true =>
          rw [hl, Bool.and_true] at h
          have h1 : ¬ 1 < (cyc p k).length := fun h' => h (decide_eq_true h')
          have h2 := (cyc_spec hp (x := (k : Int)) (by unfold In; omega)).1
          unfold per at h2 ⊢
          rw [Bool.true_and]
          exact decide_eq_false (by omega)
      rw [hf]; cases oddTo p k <;> rfl
theorem even_odd {p : List Int} (hp : IsPerm p) : evenF p = !oddTo p p.length := by
  rw [← ev_odd hp p.length (Nat.le_refl _)]
  unfold evenF cyclesF
  rw [if_pos hp, cycR_eq hp p.length (Nat.le_refl _)]
theorem it_restr {n : Nat} {c : Nat → Nat} {p : List Int} (h : Keep n c 0 p) (r : Nat) {x : Nat} (hx : x < n) (hc : c x = r) : ∀ k, it (restr n c r p) k x = it p k x ∧ c (it p k x).toNat = r
  | 0 => ⟨rfl, by show c ((x : Int)).toNat = r; rw [Int.toNat_natCast]; exact hc⟩
  | k + 1 => by
    obtain ⟨h1, h2⟩ := it_restr h r hx hc k
    have hin : 0 ≤ it p k x ∧ it p k x < n := by
      have := it_in h.1.1 (x := (x : Int)) (by unfold In; rw [h.1.2]; omega) k
      unfold In at this; rw [h.1.2] at this; exact this
    have e := h.2.1 (it p k x).toNat (by omega)
    rw [Int.toNat_of_nonneg hin.1] at e
    refine ⟨?_, by show c (ap p (it p k x)).toNat = r; rw [e]; exact h2⟩
    show ap (restr n c r p) (it (restr n c r p) k x) = ap p (it p k x)
    rw [h1, ap_restr c r p hin, if_pos h2]
theorem cyc_restr {n : Nat} {c : Nat → Nat} {p : List Int} (h : Keep n c 0 p) (r : Nat) {x : Nat} (hx : x < n) (hc : c x = r) : cyc (restr n c r p) x = cyc p x := by
  have hq := restr_perm h r
  have i1 : In p (x : Int) := by unfold In; rw [h.1.2]; omega
  have i2 : In (restr n c r p) (x : Int) := by unfold In; rw [hq.2]; omega
  have e : per (restr n c r p) x = per p x := by
    have a1 := (it_eq_iff hq.1 i2 (per p x)).1 (by rw [(it_restr h r hx hc _).1]; exact (cyc_spec h.1.1 i1).2.2.2.1)
    have a2 := (it_eq_iff h.1.1 i1 (per (restr n c r p) x)).1 (by rw [← (it_restr h r hx hc _).1]; exact (cyc_spec hq.1 i2).2.2.2.1)
    exact Nat.dvd_antisymm a1 a2
  rw [(cyc_spec hq.1 i2).2.2.1, (cyc_spec h.1.1 i1).2.2.1, e]
  unfold itL
  apply List.map_congr_left
  intro k _
  exact (it_restr h r hx hc k).1
theorem flip_restr {n : Nat} {c : Nat → Nat} {p : List Int} (h : Keep n c 0 p) (r : Nat) {x : Nat} (hx : x < n) : flipAt (restr n c r p) x = (flipAt p x && decide (c x = r)) := by
  by_cases hc : c x = r
  · unfold flipAt per; rw [cyc_restr h r hx hc, decide_eq_true hc, Bool.and_true]
  · rw [decide_eq_false hc, Bool.and_false]
    have hq := restr_perm h r
    have i2 : In (restr n c r p) (x : Int) := by unfold In; rw [hq.2]; omega
    have e : ap (restr n c r p) (x : Int) = x := by rw [ap_restr c r p (by omega), if_neg (by rw [Int.toNat_natCast]; exact hc)]
    have h1 := (per_one hq.1 i2).2 e
    have h2 := (cyc_spec hq.1 i2).1
    unfold flipAt
    rw [decide_eq_false (by omega), Bool.and_false]
theorem sg_eq {n : Nat} {c : Nat → Nat} {p : List Int} (h : Keep n c 0 p) (r : Nat) : sg n c p r = sgO p (fun x => (c x : Int)) r n := by
  have hq := restr_perm h r
  unfold sg
  rw [even_odd hq.1, hq.2, Bool.not_not]
  have : ∀ k, k ≤ n → oddTo (restr n c r p) k = sgO p (fun x => (c x : Int)) r k := by
    intro k
    induction k with
    | zero => intro _; rfl
    | succ k ih =>
      intro hk
      rw [oddTo, sgO, ih (by omega), flip_restr h r (by omega)]
      congr 2
      by_cases e : c k = r
      · rw [decide_eq_true e, decide_eq_true (by rw [e])]
      · rw [decide_eq_false e, decide_eq_false (by omega)]
  exact this n (Nat.le_refl _)
def Seen (p : List Int) (k : Nat) (y : Int) : Prop := ∃ j : Nat, j < k ∧ y ∈ cyc p j
theorem seen_least {p : List Int} (hp : IsPerm p) {x : Nat} (hx : x < p.length) : Seen p x x ↔ leastB (cyc p x) = false := by
  have ix : In p (x : Int) := by unfold In; omega
  rw [← Bool.not_eq_true, least_iff hp ix]
  constructor
  · rintro ⟨j, hj, hm⟩ hall
    have ij : In p (j : Int) := by unfold In; omega
    have := hall j (cyc_symm hp ij hm)
    omega
  · intro h
    simp only [Classical.not_forall] at h
    obtain ⟨y, hy, hlt⟩ := h
    have iy := cyc_in hp ix hy
    unfold In at iy
    refine ⟨y.toNat, by omega, ?_⟩
    rw [Int.toNat_of_nonneg iy.1]
    exact cyc_symm hp ix hy
theorem seen_iff {p : List Int} (hp : IsPerm p) {x : Nat} (hx : x < p.length) (hn : ¬ Seen p x x) {L : Nat} (hL : L ≤ per p x) (hd : (itL p x L).Nodup) :
    (Seen p x (it p L x) ∨ it p L x ∈ itL p x L) ↔ L = per p x := by
  have ix : In p (x : Int) := by unfold In; omega
  have hns : ¬ Seen p x (it p L x) := by
    rintro ⟨j, hj, hm⟩
    have ij : In p (j : Int) := by unfold In; omega
    have h1 : it p L x ∈ cyc p x := (mem_cyc hp ix).2 ⟨L, rfl⟩
    exact hn ⟨j, hj, cyc_trans hp ij hm (cyc_symm hp ix h1)⟩
  constructor
  · rintro (h | h)
    · exact absurd h hns
    · have := (first_back hp ix hd).1 h
      have h2 := (it_eq_iff hp ix L).1 this.2
      exact Nat.le_antisymm hL (Nat.le_of_dvd this.1 h2)
  · rintro rfl
    have hs := cyc_spec hp ix
    right
    exact (first_back hp ix hd).2 ⟨by omega, hs.2.2.2.1⟩
end Go.PM

namespace Go.PM
theorem W4.flip {ws : List Nat} (h : W4 ws) {o : Nat} (_ho : o < 256) : W4 (flipW ws o) := by
  refine ⟨by rw [flipW_len]; exact h.1, fun i => ?_⟩
  unfold flipW
  rw [List.getD_eq_getElem?_getD, List.getElem?_set]
  split
  · split
    · simp only [Option.getD_some]
      exact Nat.xor_lt_two_pow (n := 64) (h.2 _) (by rw [Nat.one_shiftLeft]; exact Nat.pow_lt_pow_right (by omega) (Nat.mod_lt _ (by omega)))
    · simp
  · rw [← List.getD_eq_getElem?_getD]; exact h.2 i
end Go.PM
namespace Go.Proofs.Ythhfjagnmhhapaa
open Go.W Go.PM
set_option maxHeartbeats 1000000 in
theorem signsOf_spec {n : Nat} {p orb : List Int} {a b : Option Addr} {c1 c2 : Nat} {w : World} (pp : PermN n p) (hp : Sl w a (u16L p)) (hob : Sl w b (intsL orb)) (hol : orb.length = n) (hor : ∀ x, x < n → flipAt p x = true → 0 ≤ orb.getD x 0 ∧ orb.getD x 0 < 256) :
    CallsR Try.prog 148 #[.slice a n c1, .slice b n c2] w fun v w' => ∃ ws, v = .agg (wordsL ws).toArray ∧ W4 ws ∧ (∀ o : Nat, bitsW ws o = sgO p (fun x => orb.getD x 0) o n) ∧ Ex w w' := by
  refine callsR_of (args := [_, _]) Try.func148 rfl rfl ?_
  have n1 := pp.n1
  have hpl : p.length = n := pp.2
  repeat' (first | (refine cw_seq ?_) | (refine cw_region rfl ?_))
  refine k_allocA (vs := wordsL [0, 0, 0, 0]) (fun g4 w1 hn1 => ⟨fun _ _ => trivial, ?_⟩)
  repeat' (first | (refine then_normal ?_) | (refine cw_seq ?_) | (refine cw_region rfl ?_) | (refine rr_nil ?_))
  refine k_allocA (vs := wordsL [0, 0, 0, 0]) (fun g5 w2 hn2 => ⟨fun _ _ => trivial, ?_⟩)
  repeat' (first | (refine k_makeB rfl rfl (by omega) (by omega) (fun g6 w3 hn3 => ⟨fun _ _ => trivial, ?_⟩)) | (refine k_pure rfl ?_) | (refine then_normal ?_) | (refine cw_seq ?_) | (refine cw_region rfl ?_) | (refine rr_nil ?_) | (refine k_len rfl ?_) | (refine cw_block ?_))
  have z1 := hn1.lo; have z1' := hn1.hi; have z2 := hn2.lo; have z2' := hn2.hi; have z3 := hn3.lo; have z3' := hn3.hi
  have y1 := hn1.ex.size; have y2 := hn2.ex.size
  have hE3 : Ex w w3 := (hn1.ex.trans hn2.ex).trans hn3.ex
  refine cw_loop (ι := Nat × List Nat × List Bool) [7, 8, 9, 15, 16, 17, 18, 19, 20, 21, 22, 23, 24, 25, 26, 27, 28, 29, 30, 31, 32, 33, 34, 35, 36, 37, 38, 39, 40, 41, 42, 43, 44, 45, 46, 47, 48, 49, 50, 51, 52, 53, 54, 55, 56] (fun s => [(15, .int .i64 (s.1 : Int))]) (fun s w' => s.1 ≤ n ∧ Ex w w' ∧ Blk w' g4 191 (wordsL [0, 0, 0, 0]) ∧ Blk w' g5 191 (wordsL s.2.1) ∧ Blk w' g6 4 (s.2.2.map Value.bool) ∧ s.2.2.length = n ∧ (∀ y : Nat, y < n → (s.2.2.getD y false = true ↔ Seen p s.1 y)) ∧ W4 s.2.1 ∧ ∀ o : Nat, bitsW s.2.1 o = sgO p (fun x => orb.getD x 0) o s.1) (fun s => n - s.1)
    (0, [0, 0, 0, 0], List.replicate n false) ⟨rfl, trivial⟩ ⟨Nat.zero_le _, hE3, (hn1.blk.ext hn2.ex).ext hn3.ex, hn2.blk.ext hn3.ex, hn3.blk, by simp, fun y hy => ?_, ⟨rfl, fun i => ?_⟩, fun o => ?_⟩ ?_
  · simp only
    rw [List.getD_eq_getElem?_getD, List.getElem?_replicate, if_pos hy]
    simp [Seen]
  · simp only
    have : ([0, 0, 0, 0] : List Nat) = List.replicate 4 0 := rfl
    rw [this, List.getD_eq_getElem?_getD, List.getElem?_replicate]; split <;> simp
  · exact congrFun bits_zero o
  rintro ⟨k, ws, sn⟩ ξ w4 ⟨hk, hE4, hb4, hb5, hb6, hsl, hsn, hw4, hbits⟩
  simp only at hk hb4 hb5 hb6 hsl hsn hw4 hbits
  show CW _ _ _ _ (over [(15, .int .i64 (k : Int))] _) w4
  repeat' (first | (refine k_pure rfl ?_) | (refine then_normal ?_) | (refine cw_seq ?_) | (refine cw_region rfl ?_) | (refine rr_nil ?_) | (refine cw_cond_dec rfl (fun hc => ?_) (fun hc => ?_)) | (refine cw_block ?_) | (refine cw_exit ?_) | (refine then_exit ?_) | (refine in_exit ?_) | (refine cw_skip ?_))
  · have hkn : k < n := by omega
    have ik : In p (k : Int) := by unfold In; omega
    have hcs := cyc_spec pp.1 ik
    refine cw_loop (ι := Nat × List Bool) [8, 9, 19, 20, 21, 22, 23, 24, 25, 26, 27, 28, 29, 30, 31, 32, 33] (fun s => [(9, .int .i64 (it p s.1 k)), (8, .int .i64 (s.1 : Int))]) (fun s w' => s.1 ≤ per p k ∧ (s.1 = 0 ∨ ¬ Seen p k k) ∧ (itL p k s.1).Nodup ∧ Ex w w' ∧ Blk w' g4 191 (wordsL [0, 0, 0, 0]) ∧ Blk w' g5 191 (wordsL ws) ∧ Blk w' g6 4 (s.2.map Value.bool) ∧ s.2.length = n ∧ (∀ y : Nat, y < n → (s.2.getD y false = true ↔ (Seen p k y ∨ (y : Int) ∈ itL p k s.1)))) (fun s => n + 1 - s.1)
      (0, sn) ⟨rfl, rfl, trivial⟩ ⟨Nat.zero_le _, .inl rfl, by simp [itL], hE4, hb4, hb5, hb6, hsl, fun y hy => by rw [hsn y hy]; simp [itL]⟩ ?_
    rintro ⟨L, sn2⟩ ξ2 w5 ⟨hL, hL0, hnd, hE5, hb45, hb55, hb65, hsl5, hsn5⟩
    simp only at hL hL0 hnd hb65 hsl5 hsn5
    show CW _ _ _ _ (over [(9, .int .i64 (it p L k)), (8, .int .i64 (L : Int))] _) w5
    have hy := it_in pp.1 ik L
    unfold In at hy
    rw [hpl] at hy
    obtain ⟨y, hye⟩ : ∃ y : Nat, it p L k = (y : Int) := ⟨(it p L k).toNat, by omega⟩
    have hyn : y < n := by omega
    have hp5 := hp.ext hE5
    have hyr := pp.ap (x := (y : Int)) (by omega)
    have hpy : p.getD y 0 = ap p y := by unfold ap; rw [Int.toNat_natCast]
    have hnx : it p (L + 1) k = p.getD y 0 := by rw [hpy, ← hye]; rfl
    rw [hye]
    obtain ⟨sy, hsy⟩ : ∃ t, sn2.getD y false = t := ⟨_, rfl⟩
    cases sy with
    | false =>
      have hnot : ¬ (Seen p k y ∨ (y : Int) ∈ itL p k L) := fun h => by have := (hsn5 y hyn).2 h; rw [hsy] at this; cases this
      have hns : ¬ Seen p k k := by
        rcases hL0 with rfl | h
        · intro h; have e : (k : Int) = (y : Int) := hye; exact hnot (.inl (by rw [← e]; exact h))
        · exact h
      have hlt : L < per p k := by
        rcases Nat.lt_or_ge L (per p k) with h | h
        · exact h
        · have := (seen_iff pp.1 (by omega) hns hL hnd).2 (by omega)
          rw [hye] at this; exact absurd this hnot
      have hper := hcs.2.1
      rw [hpl] at hper
      repeat' (first | (refine k_indexN (j := y) rfl rfl ⟨_, _, rfl⟩ hyn ?_) | (refine k_loadBv (j := y) rfl hb65.sl (by omega) hsy ?_) | (refine k_storeB (j := y) rfl rfl hb65 (by omega) (fun w6 hc6 hb6' => ⟨fun _ _ => trivial, ?_⟩)) | (refine k_pure rfl ?_) | (refine then_normal ?_) | (refine cw_seq ?_) | (refine cw_region rfl ?_) | (refine rr_nil ?_) | (refine k_addI rfl rfl (by omega) (by omega) ?_) | (refine cw_cond_true rfl ?_) | (refine cw_block ?_) | (refine in_normal ?_) | (refine cw_skip ?_))
      have hp6 := hp5.chg hc6 (fun ad e => by have := hp.lt (by simp; omega) ad e; omega)
      repeat' (first | (refine k_indexN (j := y) rfl rfl (hp6.plain (by simp; omega)) hyn ?_) | (refine k_loadI (j := y) rfl hp6 (by omega) ?_) | (refine k_convI rfl (wrap_i64 (by omega) (by omega)) ?_) | (refine k_pure rfl ?_) | (refine then_normal ?_) | (refine rr_nil ?_))
      rw [← hnx]
      refine ⟨⟨(L + 1, sn2.set y true), ⟨hlt, .inr hns, ?_, hE5.chg hc6 (by omega), hb45.chg hc6 (by omega), hb55.chg hc6 (by omega), hb6', by simp [hsl5], fun z hz => ?_⟩, by simp only; omega, rfl, rfl, trivial⟩, (by (repeat (first | exact agree_mask _ _ _ | refine agree_upd rfl ?_ | refine agree_updO rfl ?_ | refine agree_overIn rfl ?_ | refine agree_maskIn rfl ?_)))⟩
      · show (itL p k (L + 1)).Nodup
        rw [itL_succ, List.nodup_append]
        refine ⟨hnd, by simp, fun u hu v hv => ?_⟩
        rw [List.mem_singleton] at hv
        subst hv
        rintro rfl
        rw [hye] at hu
        exact hnot (.inr hu)
      · show (sn2.set y true).getD z false = true ↔ (Seen p k z ∨ (z : Int) ∈ itL p k (L + 1))
        rw [getD_set' (by omega), itL_succ, List.mem_append, List.mem_singleton, hye]
        by_cases e : z = y
        · subst e; simp
        · rw [if_neg e, hsn5 z hz]
          constructor
          · rintro (h | h)
            · exact .inl h
            · exact .inr (.inl h)
          · rintro (h | h | h)
            · exact .inl h
            · exact .inr h
            · omega
    | true =>
      have hyes := (hsn5 y hyn).1 hsy
      have hfl : flipAt p k = (decide (0 < L) && decide (L % 2 = 0)) := by
        unfold flipAt
        by_cases hs : Seen p k k
        · rw [(seen_least pp.1 (by omega)).1 hs]
          have hL0' : L = 0 := hL0.resolve_right fun h => h hs
          subst hL0'; rfl
        · have hLp : L = per p k := (seen_iff pp.1 (by omega) hs hL hnd).1 (by rw [hye]; exact hyes)
          have hlb : leastB (cyc p k) = true := by
            cases hb : leastB (cyc p k) with
            | true => rfl
            | false => exact absurd ((seen_least pp.1 (by omega)).2 hb) hs
          rw [hlb, ← hLp, decide_eq_true (p := 0 < L) (by omega)]
      have hseen : ∀ z : Nat, z < n → (sn2.getD z false = true ↔ Seen p (k + 1) z) := fun z hz => by
        rw [hsn5 z hz]
        constructor
        · rintro (⟨j, hj, hm⟩ | hm)
          · exact ⟨j, by omega, hm⟩
          · obtain ⟨t, _, ht⟩ := mem_itL.1 hm
            exact ⟨k, by omega, (mem_cyc pp.1 ik).2 ⟨t, ht⟩⟩
        · rintro ⟨j, hj, hm⟩
          by_cases e : j = k
          · subst e
            by_cases hs : Seen p j j
            · obtain ⟨i, hi, hi'⟩ := hs
              exact .inl ⟨i, hi, cyc_trans pp.1 (by unfold In; omega) hi' hm⟩
            · have hLp : L = per p j := (seen_iff pp.1 (by omega) hs hL hnd).1 (by rw [hye]; exact hyes)
              right; rw [hLp, ← hcs.2.2.1]; exact hm
          · exact .inl ⟨j, by omega, hm⟩
      have hper := hcs.2.1
      rw [hpl] at hper
      have hnot : ∀ o : Nat, flipAt p k = false → bitsW ws o = sgO p (fun x => orb.getD x 0) o (k + 1) := fun o h => by rw [sgO, h, Bool.false_and, Bool.xor_false]; exact hbits o
      repeat' (first | (refine k_indexN (j := y) rfl rfl ⟨_, _, rfl⟩ hyn ?_) | (refine k_loadBv (j := y) rfl hb65.sl (by omega) hsy ?_) | (refine k_rem rfl rfl (by omega) (by omega) ?_) | (refine k_pure rfl ?_) | (refine then_normal ?_) | (refine cw_seq ?_) | (refine cw_region rfl ?_) | (refine rr_nil ?_) | (refine g_run rfl rfl ?_) | (refine g_skip rfl rfl ?_) | (refine g_dec_t rfl rfl (fun hc => ?_) (fun hc => ?_)) | (refine k_addI rfl rfl (by omega) (by omega) ?_) | (refine cw_cond_false rfl ?_) | (refine cw_cond_dec rfl (fun hc => ?_) (fun hc => ?_)) | (refine cw_exit ?_) | (refine then_exit ?_) | (refine in_exit ?_) | (refine in_normal ?_) | (refine cw_skip ?_))
      · have hfk : flipAt p k = true := by rw [hfl, decide_eq_true (p := 0 < L) (by omega), decide_eq_true (p := L % 2 = 0) (by omega)]; rfl
        have hork := hor k hkn hfk
        obtain ⟨o, ho⟩ : ∃ o : Nat, orb.getD k 0 = (o : Int) := ⟨(orb.getD k 0).toNat, by omega⟩
        have hob5 := hob.ext hE5
        have hwl := hw4.1
        have hq' : (o : Int) / 64 = ((o / 64 : Nat) : Int) := by omega
        have hr' : (o : Int) % 64 = ((o % 64 : Nat) : Int) := by omega
        refine cw_draw (late := [15]) (plan := [(0, none), (1, none), (2, none), (3, none), (4, none), (5, none), (6, none), (7, none), (8, none), (9, none), (10, none), (11, none), (12, none), (13, none), (14, none), (15, some false)]) (fun w' => Blk w' g5 191 (wordsL ws) ∧ Sl w' b (intsL orb)) mixed (by kernel_rfl) ⟨hb55.drew, hob5.drew⟩ ?_
        repeat' (first | (refine k_indexN (j := k) rfl rfl (hob5.plain (by simp; omega)) hkn ?_) | (refine k_loadI (j := k) rfl (fun _ h => h.2) (by omega) ?_) | (refine k_quoI rfl rfl (by omega) (by omega) (by omega) ?_) | (refine k_rem rfl rfl (by omega) (by omega) ?_) | (refine k_indexA1 (j := o / 64) rfl (by rw [← hq', ← ho]; rfl) (by omega) ?_) | (refine k_loadN (j := o / 64) rfl (fun _ h => h.1.sl) (by omega) ?_) | (refine k_shlN (m := 1) (j := o % 64) rfl (by rw [← hr', ← ho]; rfl) rfl (by show o % 64 ≤ 64; omega) ?_) | (refine k_xorN rfl rfl rfl (hw4.2 _) (Nat.mod_lt _ (by decide)) ?_) | (refine k_storeN (j := o / 64) rfl rfl hb55.drew (by omega) (fun w6 hc6 hb6' => ⟨fun h => (nomatch h), ?_⟩)) | (refine k_pure rfl ?_) | (refine then_normal ?_) | (refine cw_region rfl ?_) | (refine rr_nil ?_) | (refine k_addI rfl rfl (by omega) (by omega) ?_) | (refine in_normal ?_))
        have hm : (1 <<< (o % 64)) % 2 ^ IntKind.u64.bits = 1 <<< (o % 64) := by
          refine Nat.mod_eq_of_lt ?_
          rw [Nat.one_shiftLeft]
          exact Nat.pow_lt_pow_right (by omega) (by show o % 64 < 64; omega)
        rw [hm] at hb6'
        have hb6'' : Blk w6 g5 191 (wordsL (flipW ws o)) := hb6'
        refine ⟨⟨(k + 1, flipW ws o, sn2), ⟨by simp only; omega, hE5.drew.chg hc6 (by omega), hb45.drew.chg hc6 (by omega), hb6'', hb65.drew.chg hc6 (by omega), hsl5, hseen, hw4.flip (by omega), fun o' => ?_⟩, by simp only; omega, rfl, trivial⟩, (by (repeat (first | exact agree_mask _ _ _ | refine agree_upd rfl ?_ | refine agree_updO rfl ?_ | refine agree_overIn rfl ?_ | refine agree_maskIn rfl ?_)))⟩
        show bitsW (flipW ws o) o' = sgO p (fun x => orb.getD x 0) o' (k + 1)
        rw [bits_flip (by omega), sgO, hfk, Bool.true_and, hbits o']
        congr 1
        by_cases e : o' = o
        · rw [decide_eq_true e, decide_eq_true (by rw [ho, e])]
        · rw [decide_eq_false e, decide_eq_false (by rw [ho]; omega)]
      · refine ⟨⟨(k + 1, ws, sn2), ⟨by simp only; omega, hE5, hb45, hb55, hb65, hsl5, hseen, hw4, fun o => hnot o ?_⟩, by simp only; omega, rfl, trivial⟩, (by (repeat (first | exact agree_mask _ _ _ | refine agree_upd rfl ?_ | refine agree_updO rfl ?_ | refine agree_overIn rfl ?_ | refine agree_maskIn rfl ?_)))⟩
        rw [hfl, decide_eq_false (p := L % 2 = 0) (by omega), Bool.and_false]
      · refine ⟨⟨(k + 1, ws, sn2), ⟨by simp only; omega, hE5, hb45, hb55, hb65, hsl5, hseen, hw4, fun o => hnot o ?_⟩, by simp only; omega, rfl, trivial⟩, (by (repeat (first | exact agree_mask _ _ _ | refine agree_upd rfl ?_ | refine agree_updO rfl ?_ | refine agree_overIn rfl ?_ | refine agree_maskIn rfl ?_)))⟩
        rw [hfl, decide_eq_false (p := 0 < L) (by omega), Bool.false_and]
  · obtain rfl : k = n := by omega
    repeat' (first | (refine k_loadCA rfl hb5 (by rw [List.length_map]; exact hw4.1) ?_) | (refine k_storeV rfl rfl (by rw [List.length_map]; exact hw4.1) (all_one (fun _ => rfl) _) hb4 rfl (fun w5 hc5 hb5' => ⟨fun _ _ => trivial, ?_⟩)) | (refine then_normal ?_) | (refine rr_nil ?_) | (refine cw_ret ?_))
    exact ret1 rfl (rc rfl (by rw [List.length_map]; exact hw4.1) hb5') ⟨ws, rfl, hw4, hbits, hE4.chg hc5 z1⟩
end Go.Proofs.Ythhfjagnmhhapaa

/- Levels under way: the orbit is being completed. No program in sight. -/
namespace Go.PM
structure Part (n : Nat) (l : Lv) : Prop where
  n1 : 1 ≤ n ∧ n ≤ 512
  pt : 0 ≤ l.pt ∧ l.pt < n
  gens : GensN n l.gens
  nd : l.orb.Nodup
  len : l.back.length = l.orb.length
  dlen : l.done.length = l.orb.length
  pos : 0 < l.orb.length
  head : l.orb.getD 0 0 = l.pt
  sub : ∀ y, y ∈ l.orb → Reach l.gens l.pt y
  bin : ∀ a, a < l.orb.length → Gen n l.gens (l.bk a)
  bap : ∀ a, a < l.orb.length → ap (l.bk a) (l.orb.getD a 0) = l.pt
  b0 : l.bk 0 = idList n
theorem Part.orb_in {n : Nat} {l : Lv} (h : Part n l) {y : Int} (hy : y ∈ l.orb) : 0 ≤ y ∧ y < n := (h.sub y hy).in h.gens.gens h.pt
theorem Part.orb_le {n : Nat} {l : Lv} (h : Part n l) : l.orb.length ≤ n := Dist.length_le ⟨fun _ hy => h.orb_in hy, h.nd⟩
def Clo (l : Lv) (a k : Nat) : Prop := (∀ i, i < a → ∀ j, j < l.gens.length → ap (l.gens.getD j []) (l.orb.getD i 0) ∈ l.orb) ∧ ∀ j, j < k → ap (l.gens.getD j []) (l.orb.getD a 0) ∈ l.orb
def Lv.add (l : Lv) (y : Int) (b : List Int) : Lv := { l with orb := l.orb ++ [y], back := l.back ++ [b], done := l.done ++ [0] }
theorem getD_snoc' {α : Type} {l : List α} {x d : α} {i : Nat} (h : i < l.length + 1) : (l ++ [x]).getD i d = if i < l.length then l.getD i d else x := by
  by_cases hi : i < l.length
  · rw [if_pos hi, List.getD_eq_getElem?_getD, List.getD_eq_getElem?_getD, List.getElem?_append_left hi]
  · obtain rfl : i = l.length := by omega
    rw [if_neg hi]; simp
theorem Part.add {n : Nat} {l : Lv} (h : Part n l) {a k : Nat} (ha : a < l.orb.length) (hk : k < l.gens.length) (hy : ap (l.gens.getD k []) (l.orb.getD a 0) ∉ l.orb) :
    Part n (l.add (ap (l.gens.getD k []) (l.orb.getD a 0)) (mulP (inv (l.gens.getD k [])) (l.bk a))) := by
  have hg := h.gens _ (getD_mem (d := []) hk)
  have hgrp := gen_grp h.n1 h.gens
  have hb := h.bin a ha
  have hx := h.orb_in (getD_mem (d := 0) ha)
  have hbk : ∀ i, i < l.orb.length + 1 → (l.add (ap (l.gens.getD k []) (l.orb.getD a 0)) (mulP (inv (l.gens.getD k [])) (l.bk a))).bk i = if i < l.orb.length then l.bk i else mulP (inv (l.gens.getD k [])) (l.bk a) := by
    intro i hi
    unfold Lv.bk Lv.add
    simp only
    rw [getD_snoc' (by rw [h.len]; exact hi), h.len]
  refine ⟨h.n1, h.pt, h.gens, ?_, ?_, ?_, ?_, ?_, ?_, ?_, ?_, ?_⟩
  · simp only [Lv.add]
    rw [List.nodup_append]
    refine ⟨h.nd, by simp, fun x hx y hy' => ?_⟩
    rw [List.mem_singleton] at hy'
    subst hy'; rintro rfl; exact hy hx
  · simp [Lv.add, h.len]
  · simp [Lv.add, h.dlen]
  · simp [Lv.add]
  · have := h.head
    simp only [Lv.add]
    rw [getD_snoc' (by omega), if_pos h.pos]; exact this
  · intro y hm
    simp only [Lv.add, List.mem_append, List.mem_singleton] at hm
    rcases hm with hm | rfl
    · exact h.sub y hm
    · exact .step _ (getD_mem hk) (h.sub _ (getD_mem ha))
  · intro i hi
    simp only [Lv.add, List.length_append, List.length_singleton] at hi
    rw [hbk i hi]
    by_cases hi' : i < l.orb.length
    · rw [if_pos hi']; exact h.bin i hi'
    · rw [if_neg hi']; exact hgrp.mul _ _ (hgrp.inv (gen_self h.gens (getD_mem hk))) hb
  · intro i hi
    simp only [Lv.add, List.length_append, List.length_singleton] at hi
    rw [hbk i hi]
    simp only [Lv.add]
    rw [getD_snoc' hi]
    by_cases hi' : i < l.orb.length
    · rw [if_pos hi', if_pos hi']; exact h.bap i hi'
    · rw [if_neg hi', if_neg hi', ap_mul hg.inv (hg.ap hx), ap_inv hg hx]; exact h.bap a ha
  · rw [hbk 0 (by omega), if_pos h.pos]; exact h.b0
theorem Clo.add {l : Lv} {a k : Nat} (h : Clo l a k) (ha : a < l.orb.length) (b : List Int) : Clo (l.add (ap (l.gens.getD k []) (l.orb.getD a 0)) b) a (k + 1) := by
  have e : ∀ i, i < l.orb.length → (l.orb ++ [ap (l.gens.getD k []) (l.orb.getD a 0)]).getD i 0 = l.orb.getD i 0 := fun i hi => by rw [getD_snoc' (by omega), if_pos hi]
  refine ⟨fun i hi j hj => ?_, fun j hj => ?_⟩
  · simp only [Lv.add] at hj ⊢
    rw [e i (by omega)]
    exact List.mem_append_left _ (h.1 i hi j hj)
  · simp only [Lv.add]
    rw [e a ha]
    by_cases hjk : j = k
    · subst hjk; simp
    · exact List.mem_append_left _ (h.2 j (by omega))
theorem Clo.skip {l : Lv} {a k : Nat} (h : Clo l a k) (hm : ap (l.gens.getD k []) (l.orb.getD a 0) ∈ l.orb) : Clo l a (k + 1) :=
  ⟨h.1, fun j hj => by by_cases hjk : j = k; · subst hjk; exact hm
                       · exact h.2 j (by omega)⟩
theorem Clo.next {l : Lv} {a : Nat} (h : Clo l a l.gens.length) : Clo l (a + 1) 0 :=
  ⟨fun i hi j hj => by by_cases hia : i = a; · subst hia; exact h.2 j hj
                       · exact h.1 i (by omega) j hj, fun j hj => absurd hj (by omega)⟩
theorem Part.ok {n : Nat} {l : Lv} (h : Part n l) (hc : Clo l l.orb.length 0) : LvOK n l := by
  refine ⟨h.n1, h.pt, h.gens, h.nd, h.len, h.dlen, h.pos, h.head, fun y => ⟨h.sub y, fun hr => ?_⟩, h.bin, h.bap, h.b0⟩
  induction hr with
  | refl => rw [← h.head]; exact getD_mem h.pos
  | step z hg _ ih =>
    rename_i g
    obtain ⟨i, hi, e⟩ := List.getElem_of_mem ih
    obtain ⟨j, hj, e'⟩ := List.getElem_of_mem hg
    have := hc.1 i hi j hj
    rw [List.getD_eq_getElem?_getD, List.getD_eq_getElem?_getD, List.getElem?_eq_getElem hi, List.getElem?_eq_getElem hj] at this
    simp only [Option.getD_some] at this
    rwa [e, e'] at this
structure Grow (l l' : Lv) : Prop where
  pt : l'.pt = l.pt
  gens : l'.gens = l.gens
  orb : ∃ t, l'.orb = l.orb ++ t
  back : ∃ t, l'.back = l.back ++ t
  done : ∃ k, l'.done = l.done ++ List.replicate k 0
theorem Grow.refl (l : Lv) : Grow l l := ⟨rfl, rfl, ⟨[], by simp⟩, ⟨[], by simp⟩, ⟨0, by simp⟩⟩
theorem Grow.add {l l' : Lv} (h : Grow l l') (y : Int) (b : List Int) : Grow l (l'.add y b) := by
  obtain ⟨t1, e1⟩ := h.orb
  obtain ⟨t2, e2⟩ := h.back
  obtain ⟨k, e3⟩ := h.done
  refine ⟨h.pt, h.gens, ⟨t1 ++ [y], by simp [Lv.add, e1]⟩, ⟨t2 ++ [b], by simp [Lv.add, e2]⟩, ⟨k + 1, by simp [Lv.add, e3, List.replicate_succ']⟩⟩
/-- scattering: cell g[x] receives b[x] -/
def scat (g b : List Int) : Nat → List Int
  | 0 => List.replicate g.length 0
  | k + 1 => (scat g b k).set (g.getD k 0).toNat (b.getD k 0)
theorem scat_len (g b : List Int) : ∀ k, (scat g b k).length = g.length
  | 0 => by simp [scat]
  | k + 1 => by simp [scat, scat_len g b k]
theorem scat_getD {g : List Int} (hp : IsPerm g) (b : List Int) : ∀ k, k ≤ g.length → ∀ j, j < k → (scat g b k).getD (g.getD j 0).toNat 0 = b.getD j 0
  | 0, _, j, hj => by omega
  | k + 1, hk, j, hj => by
    have h1 := hp.lt (k := j) (by omega); have h2 := hp.lt (k := k) (by omega)
    rw [scat, List.getD_eq_getElem?_getD, List.getElem?_set, scat_len]
    by_cases hjk : j = k
    · subst hjk; rw [if_pos rfl, if_pos (by omega)]; rfl
    · have hne : g.getD j 0 ≠ g.getD k 0 := (dist_iff.1 hp.2.2).2 j k (by omega) (by omega)
      rw [if_neg (by omega), ← List.getD_eq_getElem?_getD]
      exact scat_getD hp b k (by omega) j (by omega)
theorem scat_eq {n : Nat} {g b : List Int} (hg : PermN n g) : scat g b n = mulP (inv g) b := by
  refine perm_ext (n := n) (by rw [scat_len, hg.2]) (by rw [mulP_length, hg.inv.2]) fun y h0 h1 => ?_
  rw [ap_mul hg.inv ⟨h0, h1⟩]
  have hz := hg.inv.ap ⟨h0, h1⟩
  have e := ap_inv' hg ⟨h0, h1⟩
  have := scat_getD hg.1 b n (by rw [hg.2]; exact Nat.le_refl _) (ap (inv g) y).toNat (by omega)
  have e2 : g.getD (ap (inv g) y).toNat 0 = y := e
  rw [e2] at this
  exact this
/-- one more generator -/
theorem LvOK.part {n : Nat} {l : Lv} (h : LvOK n l) {g : List Int} (hg : PermN n g) : Part n { l with gens := l.gens ++ [g] } := by
  have hm : ∀ q ∈ l.gens, q ∈ l.gens ++ [g] := fun q hq => List.mem_append_left _ hq
  refine ⟨h.n1, h.pt, ?_, h.nd, h.len, h.dlen, h.pos, h.head, ?_, fun a ha => gen_mono hm (h.bin a ha), h.bap, h.b0⟩
  · intro q hq
    simp only [List.mem_append, List.mem_singleton] at hq
    rcases hq with hq | rfl
    · exact h.gens q hq
    · exact hg
  · intro y hy
    have hg' : GensN n (l.gens ++ [g]) := by
      intro q hq
      simp only [List.mem_append, List.mem_singleton] at hq
      rcases hq with hq | rfl
      · exact h.gens q hq
      · exact hg
    rw [gen_reach h.n1 hg' h.pt]
    obtain ⟨p, hp, e⟩ := (h.mem' y).1 hy
    exact ⟨p, gen_mono hm hp, e⟩
theorem getD_pre {α : Type} {l t : List α} {d : α} {i : Nat} (h : i < l.length) : (l ++ t).getD i d = l.getD i d := by
  rw [List.getD_eq_getElem?_getD, List.getElem?_append_left h, ← List.getD_eq_getElem?_getD]
theorem getD_rep0 (k i : Nat) : (List.replicate k 0).getD i 0 = (0 : Nat) := by
  rw [List.getD_eq_getElem?_getD, List.getElem?_replicate]; split <;> rfl
theorem Grow.ext {n : Nat} {l l' : Lv} {g : List Int} (hl : LvOK n l) (h : Grow { l with gens := l.gens ++ [g] } l') (ok : LvOK n l') : LvExt n g l l' := by
  obtain ⟨t1, e1⟩ := h.orb
  obtain ⟨t2, e2⟩ := h.back
  obtain ⟨k, e3⟩ := h.done
  simp only at e1 e2 e3
  refine ⟨ok, h.pt, h.gens, by rw [e1]; simp, fun a ha => by rw [e1, getD_pre ha], fun a ha => ?_, fun a ha => by rw [e3, getD_pre (by rw [hl.dlen]; exact ha)], fun a ha => ?_⟩
  · unfold Lv.bk; rw [e2, getD_pre (by rw [hl.len]; exact ha)]
  · rw [e3, List.getD_eq_getElem?_getD, List.getElem?_append_right (by rw [hl.dlen]; exact ha), ← List.getD_eq_getElem?_getD, getD_rep0]
def Lv.one (n : Nat) (pt : Int) (gens : List (List Int)) : Lv := ⟨pt, gens, [pt], [idList n], [0]⟩
theorem part_one {n : Nat} {pt : Int} {gens : List (List Int)} (h1 : 1 ≤ n ∧ n ≤ 512) (hp : 0 ≤ pt ∧ pt < n) (hg : GensN n gens) : Part n (Lv.one n pt gens) := by
  refine ⟨h1, hp, hg, by simp [Lv.one], rfl, rfl, by simp [Lv.one], rfl, ?_, ?_, ?_, rfl⟩
  · intro y hy
    obtain rfl : y = pt := by simpa [Lv.one] using hy
    exact .refl
  · intro a ha
    obtain rfl : a = 0 := by simpa [Lv.one] using ha
    exact .one
  · intro a ha
    obtain rfl : a = 0 := by simpa [Lv.one] using ha
    exact ap_id hp
theorem Grow.new {n : Nat} {pt : Int} {gens : List (List Int)} {l' : Lv} (h : Grow (Lv.one n pt gens) l') (a : Nat) : l'.done.getD a 0 = 0 := by
  obtain ⟨k, e3⟩ := h.done
  have : l'.done = List.replicate (k + 1) 0 := by rw [e3]; rfl
  rw [this, getD_rep0]
end Go.PM

namespace Go.W
theorem Own.ba {w : World} {lo T s n cap : Nat} {a : Option Addr} {vs : List Value} (h : Own w lo T s a (n + 1) cap vs) : ∃ g, a = some ⟨g, 0, none⟩ := by
  rcases h.2 with ⟨_, hn⟩ | ⟨g, c, cur, hv, _⟩
  · omega
  · refine ⟨g, ?_⟩
    have : Value.slice a (n + 1) cap = .slice (some ⟨g, 0, none⟩) (n + 1) c := hv
    injection this
theorem Own.fr {F : Nat → Prop} {w w' : World} {lo T s n cap : Nat} {a : Option Addr} {vs : List Value} (h : Own w lo T s a n cap vs) (c : Fr F w w') (hne : ∀ ad, a = some ad → ¬ F ad.block) : Own w' lo T s a n cap vs := by
  refine ⟨h.1, ?_⟩
  rcases h.2 with hn | ⟨g, c', cur, hv, hg, hb, r⟩
  · exact .inl hn
  · refine .inr ⟨g, c', cur, hv, hg, ?_, r⟩
    have e : a = some ⟨g, 0, none⟩ := by
      have : Value.slice a n cap = .slice (some ⟨g, 0, none⟩) n c' := hv
      injection this
    exact (c.block g (Array.getElem?_eq_some_iff.1 hb).1 (hne _ e)).trans hb
theorem k_loadSd {P : Program} {S : World → Prop} {ops : List Oper} {K : Env → World → Prop} {rest : List (Oper × Option Bool)} {ρ : Env} {w : World} {b : Option Bool} {d : Nat} {T : TypeId} {pos : String} {af : Array Edge}
    {x : Operand} {T1 : TypeId} {a a' : Option Addr} {j l' c' : Nat} {xs : List SD} [Scal P T1] (hx : ev ρ x = .pointer (some (elt a j))) (hs : Rd b S w fun w' => Sl w' a (xs.map SD.val))
    (hj : j < xs.length) (hv : xs.getD j sd0 = ⟨a', l', c'⟩) (h : RR P S ops K rest (upd ρ d (.slice a' l' c')) w) : RR P S ops K ((⟨some d, .load T1 x, T, pos, af, none⟩, b) :: rest) ρ w :=
  k_loadS hx hs hj (by rw [hv]; exact h)
end Go.W
namespace Go.Proofs.Ythhfjagnmhhapaa
open Go.W Go.PM
theorem PsAt.fr {F : Nat → Prop} {w w' : World} {n : Nat} {im : List Nat} {sds : List SD} {ps : List (List Int)} (h : PsAt w n im sds ps) (c : Fr F w w') (hn : ∀ g, g ∈ im → ¬ F g) : PsAt w' n im sds ps :=
  ⟨h.len, fun i hi => (h.sl i hi).fr c fun ad e => hn _ (h.im i hi ad e), h.n, h.im⟩
theorem PsAt.mono {w : World} {n : Nat} {im im' : List Nat} {sds : List SD} {ps : List (List Int)} (h : PsAt w n im sds ps) (hm : ∀ g, g ∈ im → g ∈ im') : PsAt w n im' sds ps :=
  ⟨h.len, h.sl, h.n, fun i hi ad e => hm _ (h.im i hi ad e)⟩
theorem PsAt.ext {w w' : World} {n : Nat} {im : List Nat} {sds : List SD} {ps : List (List Int)} (h : PsAt w n im sds ps) (c : Ex w w') : PsAt w' n im sds ps :=
  ⟨h.len, fun i hi => (h.sl i hi).ext c, h.n, h.im⟩
theorem PsAt.snoc {w : World} {n : Nat} {im : List Nat} {sds : List SD} {ps : List (List Int)} (h : PsAt w n im sds ps) {s : SD} {p : List Int} (hs : Sl w s.a (u16L p)) (hl : s.len = n) (hi : ∀ ad, s.a = some ad → ad.block ∈ im) : PsAt w n im (sds ++ [s]) (ps ++ [p]) := by
  have e : ∀ i, i < ps.length + 1 → (sds ++ [s]).getD i sd0 = if i < ps.length then sds.getD i sd0 else s := fun i hi => by rw [getD_snoc' (by rw [h.len]; exact hi), h.len]
  have e' : ∀ i, i < ps.length + 1 → (ps ++ [p]).getD i [] = if i < ps.length then ps.getD i [] else p := fun i hi => getD_snoc' hi
  refine ⟨by simp [h.len], fun i hi' => ?_, fun i hi' => ?_, fun i hi' ad => ?_⟩ <;> rw [List.length_append, List.length_singleton] at hi' <;> rw [e i hi']
  · rw [e' i hi']; split
    · rename_i h1; exact h.sl i h1
    · exact hs
  · split
    · rename_i h1; exact h.n i h1
    · exact hl
  · split
    · rename_i h1; exact h.im i h1 ad
    · exact hi ad
theorem LvAt.fr {F : Nat → Prop} {w w' : World} {n : Nat} {h : LH} {l : Lv} (hL : LvAt w n h l) (c : Fr F w w') (hF : ∀ g, g ∈ h.F → ¬ F g) (hI : ∀ g, g ∈ h.im → ¬ F g) : LvAt w' n h l := by
  have m : ∀ g, g ∈ h.F → ¬ F g := hF
  simp only [LH.F, List.mem_cons, List.not_mem_nil, or_false] at m
  exact ⟨hL.str.fr c (m _ (by simp)), hL.orb.fr c (by rintro _ ⟨⟩; exact m _ (by simp)), hL.wh.fr c (m _ (by simp)), hL.bk.fr c (by rintro _ ⟨⟩; exact m _ (by simp)), hL.bs.fr c hI, hL.dn.fr c (by rintro _ ⟨⟩; exact m _ (by simp)),
    hL.ga.fr c fun ad e => hI _ (hL.gim ad e), hL.gim, hL.gs.fr c hI, hL.nd, hL.dis, fun g hg => Nat.lt_of_lt_of_le (hL.imlt g hg) c.size, hL.gcap⟩
theorem LvAt.lt {w : World} {n : Nat} {h : LH} {l : Lv} (hL : LvAt w n h l) : ∀ g, g ∈ h.F → g < w.heap.size := by
  intro g hg
  simp only [LH.F, List.mem_cons, List.not_mem_nil, or_false] at hg
  rcases hg with rfl | rfl | rfl | rfl | rfl
  · exact hL.str.lt
  · exact (hL.orb.lo _ rfl).2
  · exact hL.wh.lt
  · exact (hL.bk.lo _ rfl).2
  · exact (hL.dn.lo _ rfl).2
/-- one block alone may have changed -/
abbrev One (x : Nat) : Nat → Prop := fun k => k = x
theorem f1C {x : Nat} {w w' : World} (h : Chg x w w') : Fr (One x) w w' := h.fr rfl
theorem f1G {x n c : Nat} {w w' : World} (h : w.grownBy w' (Value.slice (ba x) n c).ownBlock) : Fr (One x) w w' := grown_fr h (by rintro k ⟨⟩; rfl)
theorem Blk.f1 {w w' : World} {g T x : Nat} {cs : List Value} (h : Blk w g T cs) (c : Fr (One x) w w') (hn : g ≠ x) : Blk w' g T cs := h.fr c hn
theorem Own.f1 {w w' : World} {lo T s n cap g x : Nat} {vs : List Value} (h : Own w lo T s (ba g) n cap vs) (c : Fr (One x) w w') (hn : g ≠ x) : Own w' lo T s (ba g) n cap vs := h.fr c (by rintro _ ⟨⟩; exact hn)
theorem Fr.sub1 {x : Nat} {w w' : World} {F : Nat → Prop} (h : Fr (One x) w w') (hx : F x) : Fr F w w' := h.mono (by rintro k _ rfl; exact hx)
theorem addr_or {g' g s : Nat} (h : ba g' = ba g ∨ ∀ x, ba g' = some x → s ≤ x.block) : g' = g ∨ s ≤ g' := h.imp (by intro e; injection e with e; injection e) (fun f => f _ rfl)
/-- how a handle may change -/
structure LhStep (w : World) (h h' : LH) : Prop where
  blk : h'.blk = h.blk
  wb : h'.wb = h.wb
  ga : h'.ga = h.ga
  gc : h'.gc = h.gc
  gs : h'.gs = h.gs
  F : ∀ g, g ∈ h'.F → g ∈ h.F ∨ w.heap.size ≤ g
  im : ∀ g, g ∈ h'.im → g ∈ h.im ∨ w.heap.size ≤ g
  sub : ∀ g, g ∈ h.im → g ∈ h'.im
theorem LhStep.refl (w : World) (h : LH) : LhStep w h h := ⟨rfl, rfl, rfl, rfl, rfl, fun _ h => .inl h, fun _ h => .inl h, fun _ h => h⟩
theorem whereL_set {n : Nat} {orb : List Int} {y : Nat} (hy : y < n) (hn : (y : Int) ∉ orb) : (whereL n orb).set y (orb.length : Int) = whereL n (orb ++ [(y : Int)]) := by
  apply List.ext_getElem?
  intro i
  rw [List.getElem?_set]
  by_cases e : y = i
  · subst e
    rw [if_pos rfl, if_pos (by rw [whereL_len]; exact hy)]
    have := whereL_getD (n := n) (orb ++ [(y : Int)]) hy
    rw [List.getD_eq_getElem?_getD, List.getElem?_eq_getElem (by rw [whereL_len]; exact hy), Option.getD_some] at this
    rw [List.getElem?_eq_getElem (by rw [whereL_len]; exact hy), this]
    unfold whereAt
    rw [if_pos (by simp), List.idxOf_append, if_neg hn]
    simp
  · rw [if_neg e]
    by_cases hi : i < n
    · have h1 := whereL_getD (n := n) orb hi
      have h2 := whereL_getD (n := n) (orb ++ [(y : Int)]) hi
      rw [List.getD_eq_getElem?_getD, List.getElem?_eq_getElem (by rw [whereL_len]; exact hi), Option.getD_some] at h1 h2
      rw [List.getElem?_eq_getElem (by rw [whereL_len]; exact hi), List.getElem?_eq_getElem (by rw [whereL_len]; exact hi), h1, h2]
      unfold whereAt
      have hne : ¬ (i : Int) = y := by omega
      by_cases hm : (i : Int) ∈ orb
      · rw [if_pos hm, if_pos (by simp [hm]), List.idxOf_append, if_pos hm]
      · rw [if_neg hm, if_neg (by simp [hm, hne])]
    · rw [List.getElem?_eq_none (by rw [whereL_len]; omega), List.getElem?_eq_none (by rw [whereL_len]; omega)]
end Go.Proofs.Ythhfjagnmhhapaa

