import Derived.Test.YthhfjagnmhhapaaGreatRows
import Derived.Carry
import Derived.ChangeSlices
import Derived.ChangeSame
import Derived.ChangeCalls
import Derived.SizedLaws
import Derived.JoinedOf
import Derived.JoinedAt
import Derived.Deep.Matrix
import Derived.Lib.SmallJoins
import Derived.Test.YthhfjagnmhhapaaGreatE01
import Derived.Test.YthhfjagnmhhapaaGreatE02
import Derived.Test.YthhfjagnmhhapaaGreatE03
import Derived.Test.YthhfjagnmhhapaaGreatE04
import Derived.Test.YthhfjagnmhhapaaGreatE07
import Derived.Test.YthhfjagnmhhapaaGreatE11
import Derived.Test.YthhfjagnmhhapaaGreatE12
import Derived.Test.YthhfjagnmhhapaaGreatE13
import Derived.Test.YthhfjagnmhhapaaGreatE14

namespace Go.Proofs.YthhfjagnmhhapaaGreat
open Go.W Go.PM
abbrev permsL (pts : Int) (la : Option Addr) (n c : Nat) (few : Bool) : List Value := [.int .u8 pts, .slice la n c, .bool few]

theorem degree_spec {pts : Int} (hp : 0 ≤ pts ∧ pts ≤ 255) (la : Option Addr) (n c : Nat) (few : Bool) {most : Int} (hm : 0 < most ∧ most ≤ 1000) (w : World) :
    CallsR Tryz.prog 4 #[.agg (permsL pts la n c few).toArray, .int .i64 most] w fun v w' => v = .int .i64 (1 + pts % most) ∧ Ex w w' := by
  refine callsR_of (args := [_, _]) Tryz.func4 rfl rfl ?_
  have h1 : 0 ≤ pts % most := Int.emod_nonneg _ (by omega)
  have h2 : pts % most < most := Int.emod_lt_of_pos _ (by omega)
  repeat' (first | (refine k_boxA rfl (fun g w1 hn => ⟨fun _ _ => trivial, ?_⟩)) | (refine k_loadC rfl hn.blk rfl ?_) | (refine k_convI rfl (wrap_i64 (by omega) (by omega)) ?_) | (refine k_rem rfl rfl (by omega) (by omega) ?_) | (refine k_pure rfl ?_) | (refine then_normal ?_) | (refine cw_seq ?_) | (refine cw_region rfl ?_) | (refine rr_nil ?_) | (refine k_addI rfl rfl (by omega) (by omega) ?_) | (refine k_fieldAddr rfl ?_) | (refine cw_ret ?_))
  exact ret1 rfl (rt rfl) ⟨rfl, hn.ex⟩

/-- no two of the lists share memory -/
def Apart (sds : List SD) : Prop := ∀ i j, i < j → j < sds.length → ∀ ad ad', (sds.getD i sd0).a = some ad → (sds.getD j sd0).a = some ad' → ad.block ≠ ad'.block
theorem Apart.snoc {sds : List SD} {s : SD} (h : Apart sds) (hs : ∀ i, i < sds.length → ∀ ad ad', (sds.getD i sd0).a = some ad → s.a = some ad' → ad.block ≠ ad'.block) : Apart (sds ++ [s]) := by
  intro i j hij hj ad ad' e e'
  simp only [List.length_append, List.length_singleton] at hj
  rw [getD_snoc (by omega)] at e e'
  rw [if_pos (by omega)] at e
  by_cases h2 : j < sds.length
  · rw [if_pos h2] at e'; exact h i j hij h2 ad ad' e e'
  · rw [if_neg h2] at e'; exact hs i (by omega) ad ad' e e'
/-- generators that the statements make: at most three permutations of n points -/
def RetG (w : World) (n : Nat) (v : Value) (w' : World) : Prop :=
  ∃ b c sds xss, v = .slice b sds.length c ∧ OwnLists w' w.heap.size 43 3 .i64 b c sds xss ∧ xss.length ≤ 3 ∧ Gens n xss ∧ Apart sds ∧ Ex w w'
theorem gens_snoc {n : Nat} {xss : List (List Int)} {p : List Int} (h : Gens n xss) (h1 : p.length = n) (h2 : IsPerm p) : Gens n (xss ++ [p]) := fun q hq => by
  rcases List.mem_append.1 hq with h' | h'
  · exact h q h'
  · simp only [List.mem_singleton] at h'; subst h'; exact ⟨h1, h2⟩

theorem gens_false {pts most : Int} (hp : 0 ≤ pts ∧ pts ≤ 255) (hm : 0 < most ∧ most ≤ 500) {n : Nat} (hn : 1 + pts % most = (n : Int)) {la : Option Addr} {sds : List SD} {Ls : List (List Int)} {w : World} (hL : Lists w .i8 la sds Ls) (hI : ∀ i, I8 (Ls.getD i [])) (c : Nat) (hl : Ls.length ≤ 9223372036854775807) :
    CallsR Tryz.prog 5 #[.agg (permsL pts la Ls.length c false).toArray, .int .i64 most] w (RetG w n) := by
  have h1 : 0 ≤ pts % most := Int.emod_nonneg _ (by omega)
  have h2 : pts % most < most := Int.emod_lt_of_pos _ (by omega)
  have hsl := hL.len
  refine callsR_of (args := [_, _]) Tryz.func5 rfl rfl ?_
  repeat' (first | (refine k_boxA rfl (fun g w1 hn1 => ⟨fun _ _ => trivial, ?_⟩)) | (refine k_loadCA rfl hn1.blk rfl ?_) | (refine k_pure rfl ?_) | (refine then_normal ?_) | (refine cw_seq ?_) | (refine cw_region rfl ?_) | (refine rr_nil ?_))
  refine k_call (degree_spec hp _ _ _ _ (by omega) _) rfl ?_
  rintro v w2 ⟨rfl, hE2⟩
  refine ⟨fun _ _ => trivial, ?_⟩
  rw [hn]
  have hb2 := hn1.blk.ext hE2
  have hE02 := hn1.ex.trans hE2
  repeat' (first | (refine k_loadC rfl hb2 rfl ?_) | (refine k_pure rfl ?_) | (refine then_normal ?_) | (refine cw_seq ?_) | (refine cw_region rfl ?_) | (refine rr_nil ?_) | (refine k_len rfl ?_) | (refine k_fieldAddr rfl ?_) | (refine cw_block ?_))
  refine cw_loop (ι := Nat × Option Addr × Nat × List SD × List (List Int)) [5, 7, 8, 9, 10, 11, 12, 13, 20, 21, 22, 23, 24, 25, 26, 27, 28, 29, 30, 31, 32, 33, 34, 35, 36, 37, 38, 39, 40, 41, 42, 43, 44, 45, 46, 47, 48, 49, 50, 51, 52, 53, 54, 55, 56, 57, 58, 59, 60, 61, 62, 63, 64, 65] (fun s => [(20, .int .i64 (s.1 : Int)), (5, .slice s.2.1 s.2.2.2.1.length s.2.2.1)])
    (fun s w' => s.1 ≤ Ls.length ∧ s.2.2.2.2.length ≤ 3 ∧ s.2.2.2.2.length = s.1 ∧ Ex w2 w' ∧ OwnLists w' w2.heap.size 43 3 .i64 s.2.1 s.2.2.1 s.2.2.2.1 s.2.2.2.2 ∧ Gens n s.2.2.2.2 ∧ Apart s.2.2.2.1) (fun s => Ls.length - s.1)
    (0, none, 0, [], []) ⟨rfl, rfl, trivial⟩ ⟨by simp, by simp, rfl, Ex.refl _, OwnLists.nil _ _ _ _ _, by intro p hp; simp at hp, by intro i j _ hj; simp at hj⟩ ?_
  rintro ⟨k, b, cc, ss, xss⟩ ξ w3 ⟨hk, hx3, hxk, hE3, hO, hG, hA⟩
  simp only at hk hx3 hxk hO hG hA
  have hol := hO.len
  have hE03 := hE02.trans hE3
  have s3 := hE3.size
  have hb3 := hb2.ext hE3
  have s2 := hE02.size
  have hL3 := hL.ext hE03
  show CW _ _ _ _ (over [(20, .int .i64 (k : Int)), (5, .slice b ss.length cc)] _) w3
  repeat' (first | (refine k_indexN rfl rfl (hL3.sl.plain (by simp; omega)) (by omega) ?_) | (refine k_loadS rfl hL3.sl (by omega) ?_) | (refine k_pure rfl ?_) | (refine then_normal ?_) | (refine cw_seq ?_) | (refine cw_region rfl ?_) | (refine rr_nil ?_) | (refine cw_cond_dec rfl (fun hc => ?_) (fun hc => ?_)) | (refine cw_block ?_) | (refine cw_exit ?_) | (refine then_exit ?_) | (refine in_exit ?_) | (refine in_exit_ne rfl ?_) | (refine cw_ret ?_) | (refine cw_skip ?_))
  · exact ret1 rfl (rt rfl) ⟨b, cc, ss, xss, rfl, hO.mono s2, hx3, hG, hA, hE03⟩
  · obtain ⟨hl1, hl2⟩ := hL3.each k (by omega)
    rw [hl2]
    refine k_call (perm_spec hl1 (hI k) _ n (by omega) (by omega)) rfl ?_
    rintro v w4 ⟨b4, c4, rfl, hO4, hE4⟩
    refine ⟨fun _ _ => trivial, ?_⟩
    have hb4 := hb3.ext hE4
    have s4 := hE4.size
    have hP := permF_isPerm (Ls.getD k []) (n := n) (by omega) (by omega)
    have hPl := permF_length (Ls.getD k []) (n := n) (by omega)
    generalize permF (Ls.getD k []) n = p at *
    repeat' (first | (refine k_loadC rfl hb4 rfl ?_) | (refine k_pure rfl ?_) | (refine then_normal ?_) | (refine cw_seq ?_) | (refine cw_region rfl ?_) | (refine rr_nil ?_) | (refine k_fieldAddr rfl ?_) | (refine cw_cond_false rfl ?_) | (refine cw_skip ?_))
    have hOx := hO.ext hE4
    refine k_app1S rfl rfl rfl rfl hOx.top (by omega) (by omega) (by omega) (fun gl b9 c9 w9 hO9 hg9 hA9 => ?_)
    have hsep : ∀ ad ad', b = some ad → b4 = some ad' → ad.block ≠ ad'.block := fun ad ad' e e' => by have := (hO.top.lo ad e).2; have := (hO4.lo ad' e').1; omega
    have hL9 := hOx.snoc (hO4.mono (by omega)) hsep hO9 hg9 hA9
    repeat' (first | (refine k_pure rfl ?_) | (refine then_normal ?_) | (refine cw_region rfl ?_) | (refine rr_nil ?_) | (refine k_addI rfl rfl (by omega) (by omega) ?_) | (refine in_normal ?_))
    refine ⟨⟨(k + 1, b9, c9, ss ++ [⟨b4, p.length, c4⟩], xss ++ [p]), ⟨by simp only; omega, by simp; omega, by simp [hxk], hOx.grow_ex hg9 (hE3.trans hE4) (Nat.le_refl _), hL9, gens_snoc hG hPl hP, hA.snoc (fun i hi ad ad' e e' => by have := ((hO.each i (by omega)).1.lo ad e).2; have := (hO4.lo ad' e').1; omega)⟩, by simp only; omega, rfl, ?_, trivial⟩, (by (repeat (first | exact agree_mask _ _ _ | refine agree_upd rfl ?_ | refine agree_updO rfl ?_ | refine agree_overIn rfl ?_ | refine agree_maskIn rfl ?_)))⟩
    simp only [List.length_append, List.length_singleton]; rfl
  · exact ret1 rfl (rt rfl) ⟨b, cc, ss, xss, rfl, hO.mono s2, hx3, hG, hA, hE03⟩

set_option maxHeartbeats 1000000 in
theorem gens_true {pts most : Int} (hp : 0 ≤ pts ∧ pts ≤ 255) (hm : 0 < most ∧ most ≤ 500) {n : Nat} (hn : 1 + pts % most = (n : Int)) {la : Option Addr} {sds : List SD} {Ls : List (List Int)} {w : World} (hL : Lists w .i8 la sds Ls) (hI : ∀ i, I8 (Ls.getD i [])) (c : Nat) (hl : Ls.length ≤ 9223372036854775807) :
    CallsR Tryz.prog 5 #[.agg (permsL pts la Ls.length c true).toArray, .int .i64 most] w (RetG w n) := by
  have h1 : 0 ≤ pts % most := Int.emod_nonneg _ (by omega)
  have h2 : pts % most < most := Int.emod_lt_of_pos _ (by omega)
  have hsl := hL.len
  refine callsR_of (args := [_, _]) Tryz.func5 rfl rfl ?_
  repeat' (first | (refine k_boxA rfl (fun g w1 hn1 => ⟨fun _ _ => trivial, ?_⟩)) | (refine k_loadCA rfl hn1.blk rfl ?_) | (refine k_pure rfl ?_) | (refine then_normal ?_) | (refine cw_seq ?_) | (refine cw_region rfl ?_) | (refine rr_nil ?_))
  refine k_call (degree_spec hp _ _ _ _ (by omega) _) rfl ?_
  rintro v w2 ⟨rfl, hE2⟩
  refine ⟨fun _ _ => trivial, ?_⟩
  rw [hn]
  have hb2 := hn1.blk.ext hE2
  have hE02 := hn1.ex.trans hE2
  repeat' (first | (refine k_loadC rfl hb2 rfl ?_) | (refine k_pure rfl ?_) | (refine then_normal ?_) | (refine cw_seq ?_) | (refine cw_region rfl ?_) | (refine rr_nil ?_) | (refine k_len rfl ?_) | (refine k_fieldAddr rfl ?_) | (refine cw_block ?_))
  refine cw_loop (ι := Nat × Option Addr × Nat × List SD × List (List Int)) [5, 7, 8, 9, 10, 11, 12, 13, 20, 21, 22, 23, 24, 25, 26, 27, 28, 29, 30, 31, 32, 33, 34, 35, 36, 37, 38, 39, 40, 41, 42, 43, 44, 45, 46, 47, 48, 49, 50, 51, 52, 53, 54, 55, 56, 57, 58, 59, 60, 61, 62, 63, 64, 65] (fun s => [(20, .int .i64 (s.1 : Int)), (5, .slice s.2.1 s.2.2.2.1.length s.2.2.1)])
    (fun s w' => s.1 ≤ Ls.length ∧ s.2.2.2.2.length ≤ 3 ∧ s.2.2.2.2.length = s.1 ∧ Ex w2 w' ∧ OwnLists w' w2.heap.size 43 3 .i64 s.2.1 s.2.2.1 s.2.2.2.1 s.2.2.2.2 ∧ Gens n s.2.2.2.2 ∧ Apart s.2.2.2.1) (fun s => Ls.length - s.1)
    (0, none, 0, [], []) ⟨rfl, rfl, trivial⟩ ⟨by simp, by simp, rfl, Ex.refl _, OwnLists.nil _ _ _ _ _, by intro p hp; simp at hp, by intro i j _ hj; simp at hj⟩ ?_
  rintro ⟨k, b, cc, ss, xss⟩ ξ w3 ⟨hk, hx3, hxk, hE3, hO, hG, hA⟩
  simp only at hk hx3 hxk hO hG hA
  have hol := hO.len
  have hE03 := hE02.trans hE3
  have s3 := hE3.size
  have hb3 := hb2.ext hE3
  have s2 := hE02.size
  have hL3 := hL.ext hE03
  show CW _ _ _ _ (over [(20, .int .i64 (k : Int)), (5, .slice b ss.length cc)] _) w3
  repeat' (first | (refine k_indexN rfl rfl (hL3.sl.plain (by simp; omega)) (by omega) ?_) | (refine k_loadS rfl hL3.sl (by omega) ?_) | (refine k_pure rfl ?_) | (refine then_normal ?_) | (refine cw_seq ?_) | (refine cw_region rfl ?_) | (refine rr_nil ?_) | (refine cw_cond_dec rfl (fun hc => ?_) (fun hc => ?_)) | (refine cw_block ?_) | (refine cw_exit ?_) | (refine then_exit ?_) | (refine in_exit ?_) | (refine in_exit_ne rfl ?_) | (refine cw_ret ?_) | (refine cw_skip ?_))
  · exact ret1 rfl (rt rfl) ⟨b, cc, ss, xss, rfl, hO.mono s2, hx3, hG, hA, hE03⟩
  · obtain ⟨hl1, hl2⟩ := hL3.each k (by omega)
    rw [hl2]
    refine k_call (perm_spec hl1 (hI k) _ n (by omega) (by omega)) rfl ?_
    rintro v w4 ⟨b4, c4, rfl, hO4, hE4⟩
    refine ⟨fun _ _ => trivial, ?_⟩
    have hb4 := hb3.ext hE4
    have s4 := hE4.size
    repeat' (first | (refine k_loadC rfl hb4 rfl ?_) | (refine k_pure rfl ?_) | (refine then_normal ?_) | (refine cw_seq ?_) | (refine cw_region rfl ?_) | (refine rr_nil ?_) | (refine k_fieldAddr rfl ?_) | (refine cw_cond_true rfl ?_))
    refine k_call (perm_spec (L := []) (la := none) (Sl.nil _ _) ⟨by simp, by simp⟩ 0 n (by omega) (by omega)) rfl ?_
    rintro v w5 ⟨b5, c5, rfl, hO5, hE5⟩
    refine ⟨fun _ _ => trivial, ?_⟩
    have s5 := hE5.size
    have hP := permF_isPerm [] (n := n) (by omega) (by omega)
    have hPl := permF_length [] (n := n) (by omega)
    generalize permF [] n = p0 at *
    generalize hlk : Ls.getD k [] = L at *
    have hIL : I8 L := by rw [← hlk]; exact hI k
    generalize hla : (sds.getD k ⟨none, 0, 0⟩) = sk at *
    repeat' (first | (refine k_build (cs := tapeL sk.a L.length sk.cap 0) rfl ?_) | (refine k_boxA rfl (fun gt w6 hn6 => ⟨fun _ _ => trivial, ?_⟩)) | (refine k_pure rfl ?_) | (refine then_normal ?_) | (refine cw_seq ?_) | (refine cw_region rfl ?_) | (refine rr_nil ?_) | (refine cw_block ?_))
    have l6 := hn6.lo
    have l6' := hn6.hi
    have hl5 : Sl w5 sk.a (int8L L) := by
      have := (hl1.ext hE4).ext hE5
      simpa [hla] using this
    have hne : 0 < L.length → ∀ ad, sk.a = some ad → ad.block ≠ gt := fun h ad e => by have := hl5.lt (by simpa using h) ad e; omega
    have hE46 : Ex w4 w6 := hE5.trans hn6.ex
    refine cw_loop (ι := Nat × Nat × List Int) [11, 12, 13, 37, 38, 39, 40, 41, 42, 43, 44, 45, 46, 47, 48, 49, 50, 51, 52, 53, 54, 55, 56, 57, 58, 59, 60] (fun s => [(11, .int .i64 (s.1 : Int))])
      (fun s w' => s.1 ≤ 2 ∧ Ex w4 w' ∧ w6.heap.size ≤ w'.heap.size ∧ Blk w' gt 47 (tapeL sk.a L.length sk.cap s.2.1) ∧ s.2.1 ≤ L.length ∧ Own w' w4.heap.size 3 1 b5 p0.length c5 (intsL s.2.2) ∧ s.2.2.length = n ∧ Dist n s.2.2) (fun s => 2 - s.1)
      (0, 0, p0) ⟨rfl, trivial⟩ ⟨by simp, hE46, Nat.le_refl _, hn6.blk, by simp, hO5.ext hn6.ex, hPl, by rw [← hPl]; exact hP.2.2⟩ ?_
    rintro ⟨i, m, p⟩ ξ2 w7 ⟨hi, hE7, hs7, hbt, hml, hO7, hpl, hd⟩
    simp only at hi hbt hml hO7 hpl hd
    show CW _ _ _ _ (over [(11, .int .i64 (i : Int))] _) w7
    repeat' (first | (refine k_pure rfl ?_) | (refine then_normal ?_) | (refine cw_seq ?_) | (refine cw_region rfl ?_) | (refine rr_nil ?_) | (refine cw_cond_dec rfl (fun hc => ?_) (fun hc => ?_)) | (refine cw_block ?_) | (refine cw_exit ?_) | (refine then_exit ?_) | (refine in_exit ?_) | (refine cw_skip ?_))
    · have hlw : Ex w5 w7 ∨ True := .inr trivial
      have hl7 : Sl w7 sk.a (int8L L) := by
        have := (hl1.ext hE4).ext hE7
        simpa [hla] using this
      refine k_call (below_spec hbt hl7 hIL hne hml _ (by omega)) rfl ?_
      rintro v w8 ⟨rfl, hc8, hb8⟩
      refine ⟨fun _ _ => trivial, ?_⟩
      have s8 := hc8.size
      have hm8 := tAt_le hml
      have hO8 := hO7.chg hc8 (fun ad e => by have h1 := (hO5.lo ad e).2; omega)
      have hE8 : Ex w4 w8 := hE7.chg hc8 (by omega)
      have hl8 : Sl w8 sk.a (int8L L) := by
        have := (hl1.ext hE4).ext hE8
        simpa [hla] using this
      repeat' (first | (refine k_pure rfl ?_))
      refine k_call (below_spec hb8 hl8 hIL hne hm8 _ (by omega)) rfl ?_
      rintro v w9 ⟨rfl, hc9, hb9⟩
      refine ⟨fun _ _ => trivial, ?_⟩
      have s9 := hc9.size
      have hm9 := tAt_le hm8
      have hO9 := hO8.chg hc9 (fun ad e => by have h1 := (hO5.lo ad e).2; omega)
      have hE9 : Ex w4 w9 := hE8.chg hc9 (by omega)
      have q1 : 0 ≤ L.getD m 0 % 256 % (n : Int) ∧ L.getD m 0 % 256 % (n : Int) < n := ⟨Int.emod_nonneg _ (by omega), Int.emod_lt_of_pos _ (by omega)⟩
      have q2 : 0 ≤ L.getD (tAt L m) 0 % 256 % (n : Int) ∧ L.getD (tAt L m) 0 % 256 % (n : Int) < n := ⟨Int.emod_nonneg _ (by omega), Int.emod_lt_of_pos _ (by omega)⟩
      obtain ⟨x, hx⟩ : ∃ x : Nat, L.getD m 0 % 256 % (n : Int) = x := ⟨_, (Int.toNat_of_nonneg q1.1).symm⟩
      obtain ⟨y, hy⟩ : ∃ y : Nat, L.getD (tAt L m) 0 % 256 % (n : Int) = y := ⟨_, (Int.toNat_of_nonneg q2.1).symm⟩
      rw [hx] at q1 ⊢
      rw [hy] at q2 ⊢
      repeat' (first | (refine k_pure rfl ?_) | (refine then_normal ?_) | (refine rr_nil ?_))
      have hpll : p0.length = n := hPl
      have hpn := hO9.sl.plain (by simp; omega)
      refine cw_draw (late := [13, 15]) (plan := [(0, none), (1, none), (2, none), (3, none), (4, none), (5, none), (6, none), (7, none), (8, none), (9, none), (10, none), (11, none), (12, none), (13, some false), (14, none), (15, some false)]) (fun w' => Own w' w4.heap.size 3 1 b5 p0.length c5 (intsL p)) mixed (by kernel_rfl) hO9.drew ?_
      repeat' (first | (refine k_indexN rfl rfl hpn (by omega) ?_) | (refine k_loadI rfl (fun _ h => h.sl) (by omega) ?_) | (refine k_pure rfl ?_))
      refine k_storeOwn rfl rfl rfl hO9.drew (by simp; omega) (fun gb w10 hgb hlo10 hc10 hO10 => ⟨fun h => absurd h (by decide), ?_⟩)
      replace hO10 := hO10.setI
      repeat' (first | (refine k_indexN rfl rfl hpn (by omega) ?_))
      refine k_storeOwn rfl rfl rfl hO10 (by simp; omega) (fun gb2 w11 hgb2 hlo11 hc11 hO11 => ⟨fun h => absurd h (by decide), ?_⟩)
      replace hO11 := hO11.setI
      obtain rfl : gb = gb2 := by rw [hgb] at hgb2; simpa using hgb2
      have hng : gt ≠ gb := by have h1 : gb < w5.heap.size := (hO5.lo _ hgb).2; omega
      have s10 := hc10.size
      have s11 := hc11.size
      have s9d : w9.drew.heap.size = w9.heap.size := rfl
      repeat' (first | (refine k_pure rfl ?_) | (refine then_normal ?_) | (refine cw_region rfl ?_) | (refine rr_nil ?_) | (refine k_addI rfl rfl (by omega) (by omega) ?_) | (refine in_normal ?_))
      exact ⟨⟨(i + 1, tAt L (tAt L m), swapL p x y), ⟨by simp only; omega, (hE9.drew.chg hc10 hlo10).chg hc11 hlo11, by omega, ((hb9.drew).chg hc10 hng).chg hc11 hng, hm9, hO11, by simp only [swapL_length, hpl], swapL_dist (by omega) (by omega) hd⟩, by simp only; omega, rfl, trivial⟩, (by (repeat (first | exact agree_mask _ _ _ | refine agree_upd rfl ?_ | refine agree_updO rfl ?_ | refine agree_overIn rfl ?_ | refine agree_maskIn rfl ?_)))⟩
    · have hPp : IsPerm p := ⟨by omega, by omega, by rw [hpl]; exact hd⟩
      have hOx := (hO.ext hE4).ext hE7
      have s7 := hE7.size
      rw [show p0.length = p.length by omega] at hO7 ⊢
      refine k_app1S rfl rfl rfl rfl hOx.top (by omega) (by omega) (by omega) (fun gl b9 c9 w9 hO9 hg9 hA9 => ?_)
      have hsep : ∀ ad ad', b = some ad → b5 = some ad' → ad.block ≠ ad'.block := fun ad ad' e e' => by have := (hO.top.lo ad e).2; have := (hO5.lo ad' e').1; omega
      have hL9 := hOx.snoc (hO7.mono (by omega)) hsep hO9 hg9 hA9
      repeat' (first | (refine k_pure rfl ?_) | (refine then_normal ?_) | (refine cw_region rfl ?_) | (refine rr_nil ?_) | (refine k_addI rfl rfl (by omega) (by omega) ?_) | (refine in_normal ?_))
      refine ⟨⟨(k + 1, b9, c9, ss ++ [⟨b5, p.length, c5⟩], xss ++ [p]), ⟨by simp only; omega, by simp; omega, by simp [hxk], hOx.grow_ex hg9 ((hE3.trans hE4).trans hE7) (Nat.le_refl _), hL9, gens_snoc hG hpl hPp, hA.snoc (fun i hi ad ad' e e' => by have := ((hO.each i (by omega)).1.lo ad e).2; have := (hO5.lo ad' e').1; omega)⟩, by simp only; omega, rfl, ?_, trivial⟩, (by (repeat (first | exact agree_mask _ _ _ | refine agree_upd rfl ?_ | refine agree_updO rfl ?_ | refine agree_overIn rfl ?_ | refine agree_maskIn rfl ?_)))⟩
      simp only [List.length_append, List.length_singleton]; rfl
  · exact ret1 rfl (rt rfl) ⟨b, cc, ss, xss, rfl, hO.mono s2, hx3, hG, hA, hE03⟩
theorem gens_spec {pts most : Int} (hp : 0 ≤ pts ∧ pts ≤ 255) (hm : 0 < most ∧ most ≤ 500) {n : Nat} (hn : 1 + pts % most = (n : Int)) {la : Option Addr} {sds : List SD} {Ls : List (List Int)} {w : World} (hL : Lists w .i8 la sds Ls) (hI : ∀ i, I8 (Ls.getD i [])) (c : Nat) (hl : Ls.length ≤ 9223372036854775807) (few : Bool) :
    CallsR Tryz.prog 5 #[.agg (permsL pts la Ls.length c few).toArray, .int .i64 most] w (RetG w n) := by
  cases few
  · exact gens_false hp hm hn hL hI c hl
  · exact gens_true hp hm hn hL hI c hl
end Go.Proofs.YthhfjagnmhhapaaGreat

namespace Go.Proofs.YthhfjagnmhhapaaGreat
open Go.W Go.PM Go.LM
theorem errS_ok {n : Nat} {gens : List (List Int)} (h1 : 1 ≤ n) (h2 : n ≤ 512) (h3 : gens.length ≤ 64) (hg : Gens n gens) : errS (n : Int) gens = 0 := by
  unfold errS
  rw [if_neg (by omega), if_neg (by omega), if_pos (permsB_iff.2 hg.n)]
end Go.Proofs.YthhfjagnmhhapaaGreat

namespace Go.Proofs.YthhfjagnmhhapaaGreat
open Go.W Go.PM Go.LM
theorem cmpI_gt {x y : Int} (h : y < x) : cmpI x y = 1 := by unfold cmpI; rw [if_neg (by omega), if_pos h]
theorem cmpI_le {x y : Int} (h : x ≤ y) : cmpI x y ≤ 0 := by unfold cmpI; split; omega; rw [if_neg (by omega)]; omega
set_option maxHeartbeats 2000000 in
theorem elements_calls {pts : Int} (hp : 0 ≤ pts ∧ pts ≤ 255) {la : Option Addr} {sds : List SD} {Ls : List (List Int)} {w : World} (hL : Lists w .i8 la sds Ls) (hI : ∀ i, I8 (Ls.getD i [])) (c : Nat) (hl : Ls.length ≤ 9223372036854775807) (few : Bool) :
    CallsR Tryz.prog 3 #[.agg (permsL pts la Ls.length c few).toArray] w fun v w' => v = .bool true ∧ Ex w w' := by
  refine callsR_of (args := [_]) Tryz.func3 rfl rfl ?_
  repeat' (first | (refine k_boxA rfl (fun g w1 hn1 => ⟨fun _ _ => trivial, ?_⟩)) | (refine k_pure rfl ?_) | (refine then_normal ?_) | (refine cw_seq ?_) | (refine cw_region rfl ?_) | (refine rr_nil ?_))
  have hd1 : 0 ≤ pts % 7 := Int.emod_nonneg _ (by omega)
  have hd2 : pts % 7 < 7 := Int.emod_lt_of_pos _ (by omega)
  obtain ⟨n, hn⟩ : ∃ n : Nat, 1 + pts % 7 = (n : Int) := ⟨(1 + pts % 7).toNat, by omega⟩
  have hn8 : 1 ≤ n ∧ n ≤ 7 := by omega
  refine cw_draw (late := []) (plan := [(0, none), (2, none), (1, some true), (3, some true), (4, none), (5, none)]) (fun w' => Blk w' g 24 (permsL pts la Ls.length c few)) mixed (by kernel_rfl) hn1.blk.drew ?_
  have hE1 : Ex w w1.drew := hn1.ex.drew
  repeat' (first | (refine k_loadCA rfl (fun _ h => h) rfl ?_))
  refine k_call (degree_spec hp _ _ _ _ (by omega) _) rfl ?_
  rintro v w2 ⟨rfl, hE2⟩
  refine ⟨fun _ h => h.ext hE2, ?_⟩
  rw [hn]
  refine k_call (gens_spec hp (by omega) hn (hL.ext (hE1.trans hE2)) hI _ hl few) rfl ?_
  rintro v w3 ⟨b, cc, ss, xss, rfl, hO, hx3, hG, hA, hE3⟩
  refine ⟨fun _ h => h.ext hE3, ?_⟩
  have hE03 : Ex w w3 := (hE1.trans hE2).trans hE3
  have hLs := hO.lists
  have hle := hLs.len
  rw [hle]
  have hes : errS (n : Int) xss = 0 := errS_ok hn8.1 (by omega) (by omega) hG
  have n1 : 1 ≤ n ∧ n ≤ 512 := ⟨hn8.1, by omega⟩
  have hgrp := gen_grp n1 hG.n
  repeat' (first | (refine k_pure rfl ?_) | (refine then_normal ?_) | (refine cw_seq ?_) | (refine cw_region rfl ?_) | (refine rr_nil ?_))
  refine k_call (rOrder_spec (n := (n : Int)) (cap := cc) hLs (by omega) (fun _ => by omega)) rfl ?_
  rintro v w5 ⟨z5, rfl, hE5, _, ho5⟩
  refine ⟨fun _ _ => trivial, ?_⟩
  obtain ⟨k5, hk5, hz5⟩ := ho5 hes
  rw [Int.toNat_natCast] at hk5
  obtain ⟨cs5, rfl, hcl5, hco5⟩ := hz5.out
  rw [hes]
  have hk57 : k5 ≤ 5040 := by
    have h1 := card_fac hgrp hk5
    have h2 := fac_mono hn8.2
    have hf7 : fac 7 = 5040 := rfl
    omega
  repeat' (first | (refine k_pure rfl ?_))
  refine k_allocA (vs := intL false none 0 0) (fun g6 w6 hn6 => ⟨fun _ _ => trivial, ?_⟩)
  refine k_storeV (n := 2) rfl rfl hcl5 hco5 hn6.blk rfl (fun w7 hc7 hb7 => ⟨fun _ _ => trivial, ?_⟩)
  have s5 := hE5.size
  have hE37 : Ex w3 w7 := (hE5.trans hn6.ex).chg hc7 (by have h1 := hn6.lo; omega)
  have hq7 := (hz5.ext hn6.ex).chgO hc7 (hz5.off_hi hn6.lo)
  repeat' (first | (refine k_pure rfl ?_) | (refine then_normal ?_) | (refine cw_seq ?_) | (refine cw_region rfl ?_) | (refine rr_nil ?_))
  refine k_call (sElements_spec (n := (n : Int)) (cap := cc) (hLs.ext hE37) (by omega) (fun _ => by omega)) rfl ?_
  rintro v w8 ⟨hE8, b8, c8, ss8, L8, e8, rfl, hL8, _, ho8⟩
  refine ⟨fun _ _ => trivial, ?_⟩
  obtain ⟨k8, hk8, hcase⟩ := ho8 hes
  rw [Int.toNat_natCast] at hk8 hcase
  obtain rfl : k8 = k5 := hk8.unique hk5
  have hb8 := hb7.ext hE8
  have hE38 := hE37.trans hE8
  have hE8d : Ex w8 w8.drew := (Ex.refl _).drew
  repeat' (first | (refine k_pure rfl ?_) | (refine then_normal ?_) | (refine cw_seq ?_) | (refine rr_nil ?_))
  refine cw_draw (late := [2]) (plan := [(0, none), (1, some true), (2, some false), (3, none)]) (fun w' => Ex w8 w') mixed (by kernel_rfl) hE8d ?_
  repeat' (first | (refine k_loadCA (g := g6) rfl (fun _ h => hb8.ext h) hcl5 ?_))
  refine k_call (refSmall_spec (z := 2000) (by omega) (by omega) _) rfl ?_
  rintro v w9 ⟨hz9, hE9⟩
  refine ⟨fun _ h => h.trans hE9, ?_⟩
  have hE89 := hE8d.trans hE9
  skip
  refine k_call (refCmpI_spec (hq7.ext (hE8.trans hE89)) hz9) rfl ?_
  rintro v w10 ⟨rfl, hE10⟩
  refine ⟨fun _ h => h.trans hE10, ?_⟩
  have hE810 := hE89.trans hE10
  rcases hcase with ⟨h2000, rfl, rfl⟩ | ⟨h2000, rfl, hEn8, hA8⟩
  · rw [cmpI_gt (x := ((k8 : Nat) : Int)) (y := 2000) (by omega)]
    repeat' (first | (refine k_pure rfl ?_) | (refine then_normal ?_) | (refine cw_seq ?_) | (refine cw_region rfl ?_) | (refine rr_nil ?_) | (refine k_len rfl ?_) | (refine g_run rfl rfl ?_) | (refine cw_cond_true rfl ?_))
    refine k_call (awakeS_spec _) rfl ?_
    rintro v w11 ⟨rfl, hE11⟩
    refine ⟨fun _ _ => trivial, ?_⟩
    repeat' (first | (refine k_pure rfl ?_) | (refine then_normal ?_) | (refine rr_nil ?_) | (refine cw_ret ?_) | (refine then_ret ?_))
    exact ret1 rfl (rt rfl) ⟨rfl, ((hE03.trans hE38).trans hE810).trans hE11⟩
  · have hcm := cmpI_le (x := ((k8 : Nat) : Int)) (y := 2000) (by omega)
    have hll : L8.length = k8 := hEn8.card.unique hk8
    have hb10 := hb8.ext hE810
    have hEd : Ex w10 w10.drew := (Ex.refl _).drew
    repeat' (first | (refine k_gtrF rfl rfl hcm ?_) | (refine then_normal ?_) | (refine cw_seq ?_) | (refine rr_nil ?_) | (refine cw_cond_false rfl ?_) | (refine cw_skip ?_))
    refine cw_draw (late := [2]) (plan := [(0, none), (1, some true), (2, some false), (3, none)]) (fun w' => Ex w10 w') mixed (by kernel_rfl) hEd ?_
    repeat' (first | (refine k_loadCA (g := g6) rfl (fun _ h => hb10.ext h) hcl5 ?_))
    refine k_call (refSmall_spec (z := 200) (by omega) (by omega) _) rfl ?_
    rintro v w11 ⟨hz11, hE11⟩
    refine ⟨fun _ h => h.trans hE11, ?_⟩
    have hE1011 := hEd.trans hE11
    skip
    refine k_call (refCmpI_spec (hq7.ext ((hE8.trans hE810).trans hE1011)) hz11) rfl ?_
    rintro v w12 ⟨rfl, hE12⟩
    refine ⟨fun _ h => h.trans hE12, ?_⟩
    have hE1012 := hE1011.trans hE12
    have hE812 := hE810.trans hE1012
    have hb12 := hb10.ext hE1012
    by_cases h200 : 200 < k8
    · rw [cmpI_gt (x := ((k8 : Nat) : Int)) (y := 200) (by omega)]
      repeat' (first | (refine k_pure rfl ?_) | (refine then_normal ?_) | (refine cw_seq ?_) | (refine rr_nil ?_) | (refine cw_cond_true rfl ?_))
      have hEd2 : Ex w12 w12.drew := (Ex.refl _).drew
      refine cw_draw (late := [7]) (plan := [(0, none), (1, none), (2, none), (3, none), (4, none), (5, none), (6, some true), (7, some false), (8, none), (9, none), (10, some true), (11, none), (12, none)]) (fun w' => Ex w12 w') mixed (by kernel_rfl) hEd2 ?_
      repeat' (first | (refine k_loadCA (g := g6) rfl (fun _ h => hb12.ext h) hcl5 ?_) | (refine k_pure rfl ?_) | (refine k_len rfl ?_) | (refine g_run rfl rfl ?_))
      refine k_call (refSmall_spec (z := (L8.length : Int)) (by omega) (by omega) _) rfl ?_
      rintro v w13 ⟨hz13, hE13⟩
      refine ⟨fun _ h => h.trans hE13, ?_⟩
      have hE1213 := hEd2.trans hE13
      repeat' (first | (refine g_run rfl rfl ?_))
      refine k_call (refSame_spec (hq7.ext ((hE8.trans hE812).trans hE1213)) hz13) rfl ?_
      rintro v w14 ⟨rfl, hE14⟩
      refine ⟨fun _ h => h.trans hE14, ?_⟩
      rw [decide_eq_true (p := ((k8 : Nat) : Int) = ((L8.length : Nat) : Int)) (by rw [hll])]
      repeat' (first | (refine k_pure rfl ?_) | (refine g_run rfl rfl ?_))
      refine k_call (awakeS_spec _) rfl ?_
      rintro v w15 ⟨rfl, hE15⟩
      refine ⟨fun _ h => h.trans hE15, ?_⟩
      repeat' (first | (refine k_pure rfl ?_) | (refine then_normal ?_) | (refine rr_nil ?_) | (refine cw_ret ?_) | (refine then_ret ?_))
      exact ret1 rfl (rt rfl) ⟨rfl, (((hE03.trans hE38).trans hE812).trans hE1213).trans (hE14.trans hE15)⟩
    · have hcm2 := cmpI_le (x := ((k8 : Nat) : Int)) (y := 200) (by omega)
      repeat' (first | (refine k_gtrF rfl rfl hcm2 ?_) | (refine k_pure rfl ?_) | (refine then_normal ?_) | (refine cw_seq ?_) | (refine cw_region rfl ?_) | (refine rr_nil ?_) | (refine cw_cond_false rfl ?_) | (refine cw_skip ?_))
      refine k_call (rElements_spec (n := (n : Int)) (cap := cc) (hLs.ext (hE38.trans hE812)) (by omega) (fun _ => by omega) (fun k _ hk => by rw [Int.toNat_natCast] at hk; have := hk.unique hk8; omega)) rfl ?_
      rintro v w13 ⟨hE13, b13, c13, ss13, L13, e13, rfl, hL13, ho13⟩
      refine ⟨fun _ _ => trivial, ?_⟩
      obtain ⟨rfl, hEn13, hA13⟩ := ho13 hes
      rw [Int.toNat_natCast] at hEn13
      have hLL : L8 = L13 := asc_unique hA8 hA13 fun p => by rw [hEn8.mem, hEn13.mem]
      subst hLL
      have hpl : ∀ i, (L8.getD i []).length ≤ 9223372036854775807 := fun i => by
        rcases Nat.lt_or_ge i L8.length with hi | hi
        · rw [(hgrp.perm _ ((hEn8.mem _).1 (getD_mem (d := []) hi))).2]; omega
        · rw [List.getD_eq_getElem?_getD, List.getElem?_eq_none hi]; simp
      repeat' (first | (refine k_eqlI rfl rfl ?_) | (refine k_pure rfl ?_) | (refine then_normal ?_) | (refine cw_seq ?_) | (refine cw_region rfl ?_) | (refine rr_nil ?_) | (refine g_run rfl rfl ?_))
      refine k_call (sameLists_spec (xs := L8) (ys := L8) (hL8.ext (hE812.trans hE13)) hL13 c8 c13 (by omega) hpl) rfl ?_
      rintro v w14 ⟨rfl, hE14⟩
      refine ⟨fun _ _ => trivial, ?_⟩
      rw [decide_eq_true (p := L8 = L8) rfl]
      repeat' (first | (refine k_pure rfl ?_) | (refine g_run rfl rfl ?_))
      refine k_call (awakeS_spec _) rfl ?_
      rintro v w15 ⟨rfl, hE15⟩
      refine ⟨fun _ _ => trivial, ?_⟩
      repeat' (first | (refine k_pure rfl ?_) | (refine then_normal ?_) | (refine rr_nil ?_) | (refine cw_ret ?_))
      exact ret1 rfl (rt rfl) ⟨rfl, (((hE03.trans hE38).trans hE812).trans hE13).trans (hE14.trans hE15)⟩
end Go.Proofs.YthhfjagnmhhapaaGreat

namespace Go.W
open Go.ChangeShapes Go.WideShapes Go.ChangeAt Go.RowKit
section
variable {H : Type} {enc : TypeId × Value → H} {P : Program} {W W' : World}
/-- arguments read behind the call as before, if below the heap's old size nothing has changed -/
theorem trodAll_stays (hl : laidOutB P = true) (hb : Below W.heap.size W W') {sp : Nat → Bool} : ∀ {ts : List TypeId} {vs : List Value} {ds : List (DataW H)} {ps : List MemPlace},
    ts.all (fun t => P.readableRec t && decide (t < P.types.size)) = true → DataW.TrodAll enc P W 0 (fun _ => true) true ts vs ds ps → (∀ x ∈ ps, x.block < W.heap.size) → (∀ x ∈ ps, sp x.block = true) →
    DataW.TrodAll enc P W' 0 sp true ts vs ds ps
  | [], [], [], _, _, h, _, _ => h
  | t :: ts, v :: vs, d :: ds, _, ht, ⟨p, q, h1, h2, e⟩, hlt, hs => by
    simp only [List.all_cons, Bool.and_eq_true, decide_eq_true_eq] at ht
    exact ⟨p, q, WideElems.Trod_stays hl ht.1.1 ht.1.2 h1 (fun x hx => hb.same (hlt x (by rw [e]; exact List.mem_append_left _ hx))) (fun x hx => hs x (by rw [e]; exact List.mem_append_left _ hx)),
      trodAll_stays hl hb ht.2 h2 (fun x hx => hlt x (by rw [e]; exact List.mem_append_right _ hx)) (fun x hx => hs x (by rw [e]; exact List.mem_append_right _ hx)), e⟩
/-- the last step of a law's row: it has returned true, and below the heap's old size nothing has changed -/
theorem law_post {f : Func} {s : ChangeSpec} {apart fresh handsOn again : Bool} {args : Array Value} {ds gs : List (DataW H)} {before : List MemPlace} {tb : TypeId}
    (hl : laidOutB P = true) (hrd : f.params.toList.all (fun t => P.readableRec t && decide (t < P.types.size)) = true) (hrt : f.resultTypes = #[tb]) (htb : P.underlying tb = some .bool) (hvars : s.vars = [])
    (hspec : s.fn H (ds ++ gs) = { results := [.lit (.bool true)], args := ds })
    (hW : DataW.Whole enc P f.params.toList s.vars apart W args.toList ds gs before) (hb : Below W.heap.size W W') :
    s.post enc P f apart fresh handsOn again W args (.bool true) W' := by
  have hlt : ∀ p ∈ before, p.block < W.heap.size := fun p hp => hW.lt p hp
  have hW0 := hW
  obtain ⟨pa, pv, hA, hV, hps, hz, hn⟩ := hW
  rw [hvars] at hV
  obtain ⟨rfl, rfl⟩ := trodVars_none hV
  have hps' : before = pa ++ [] := hps
  have hres : ∀ (b : Nat) (sp : Nat → Bool) (hd : Bool), DataW.TrodAll enc P W' b sp hd f.resultTypes.toList ((Value.bool true).resultList f.resultTypes.size) (s.fn H (ds ++ [])).results [] := fun b sp hd => by
    rw [hspec, hrt]; exact trodAll_mk1 (shut_bool htb _)
  have hargs : ∀ sp : Nat → Bool, (∀ p ∈ before, sp p.block = true) → DataW.TrodAll enc P W' 0 sp true f.params.toList args.toList (s.fn H (ds ++ [])).args pa := fun sp hsp => by
    rw [hspec]; exact trodAll_stays hl hb hrd hA (fun x hx => hlt x (by rw [hps']; simpa using hx)) (fun x hx => hsp x (by rw [hps']; simpa using hx))
  have hvs : ∀ sp : Nat → Bool, (∀ p ∈ before, sp p.block = true) → DataW.TrodVars enc P W' sp s.vars (s.fn H (ds ++ [])).vars [] := fun sp _ => by rw [hspec, hvars]; rfl
  have hok : ∀ (j : Nat) (t : TypeId) (r : Value), f.resultTypes[j]? = some t → ((Value.bool true).resultList f.resultTypes.size)[j]? = some r → Value.okWide P W' .any 0 t r := ok_one hrt rfl (okWide_bool_mk htb _)
  have hold : ∀ p ∈ before, (fun b => decide (b < W.heap.size)) p.block = true := fun p hp => by simpa using hlt p hp
  refine ⟨ds, [], before, [], pa, [], hW0, hres _ _ _, hargs _ hold, hvs _ hold, World.keptBut_mono (fun p hp => ⟨hp, ?_⟩) (hb.frame (· ∈ before)), fun _ => ?_⟩
  · rw [hps', List.mem_append] at hp
    exact Or.inr hp
  · refine ⟨hok, _, _, ([] ++ pa) ++ [], ⟨[] ++ pa, [], trodAll_append (hargs _ (fun _ _ => rfl)) (hres _ _ _), hvs _ (fun _ _ => rfl), rfl, ?_, ?_⟩, ?_⟩
    · intro b off hp
      have hin : MemPlace.cell b off ∈ before := by rw [hps']; simpa using hp
      rw [hb.frozen (hlt _ hin)]
      exact hz b off hin
    · intro ha
      have := hn ha
      rw [hps'] at this
      simpa using this
    · intro p hp _
      rw [hps']
      simpa using hp
end
end Go.W
namespace Go.Proofs.YthhfjagnmhhapaaGreat
theorem Tryz.own : ownKnob Tryz.prog.godebug = none := by kernel_rfl
theorem Tryz.laidOut : laidOutB Tryz.prog = true := by kernel_rfl
end Go.Proofs.YthhfjagnmhhapaaGreat

namespace Go.W
open Go.ChangeShapes Go.WideShapes Go.ChangeAt Go.RowKit
section
variable {H : Type} {enc : TypeId × Value → H} {P : Program} {W W' : World}
theorem sl_of_cells {k : IntKind} {a : Option Addr} {L C : Nat} {Z : List Int} (hl : L ≤ C) (hz : Z.length = C) (hn : a = none → C = 0) (hc : ∀ a', a = some a' → ∀ c, c < C → W.cell? (a'.add c) = some (.int k (Z.getD c 0))) :
    Sl W a ((Z.take L).map (Value.int k)) ∧ (Z.take L).length = L := by
  have hlen : (Z.take L).length = L := by simp; omega
  refine ⟨⟨fun hne => ?_, fun j hj => ?_⟩, hlen⟩
  · have h0 : 0 < L := by
      rcases Nat.eq_zero_or_pos L with h | h
      · subst h; simp at hne
      · exact h
    cases a with
    | none => have := hn rfl; omega
    | some a =>
      obtain ⟨b, off, spot⟩ := a
      have hspot : spot = none := by simpa [Addr.add] using World.cell?_spot (hc _ rfl 0 (by omega))
      subst hspot
      exact ⟨b, off, rfl⟩
  · simp only [List.length_map, hlen] at hj
    cases a with
    | none => have := hn rfl; omega
    | some a =>
      obtain ⟨b, off, spot⟩ := a
      have hspot : spot = none := by simpa [Addr.add] using World.cell?_spot (hc _ rfl 0 (by omega))
      subst hspot
      have := hc _ rfl j (by omega)
      have e : (⟨b, off, none⟩ : Addr).add j = ⟨b, off + j, none⟩ := by unfold Addr.add; split <;> simp_all
      rw [e] at this
      simp only [elt]
      rw [this]
      simp [List.getD_eq_getElem?_getD, hj, show j < Z.length by omega]
/-- a slice of slices of numbers -/
theorem open_rowsT {t e q : TypeId} {k : IntKind} {fuel : Nat} {v : Value} {x : DataW H × List MemPlace} (ht : P.underlying t = some (.slice e)) (he : P.underlying e = some (.slice q)) (hq : P.underlying q = some (.int k))
    (ce : P.cellsOf e = 1) (cq : P.cellsOf q = 1) (h : DataW.trod enc P W 0 (fun _ => true) true fuel t [v] = some x) :
    ∃ (a : Option Addr) (sds : List SD) (xss : List (List Int)) (c : Nat), v = .slice a xss.length c ∧ Lists W k a sds xss ∧ xss.length ≤ 9223372036854775807 ∧ (∀ i, (xss.getD i []).length ≤ 9223372036854775807) ∧ ∀ i, ∀ x ∈ xss.getD i [], (Lit.int k x).wf = true := by
  rcases Go.Deep.open_int_rows ht he hq ce cq h with ⟨hcs, hx⟩ | ⟨a, len, cap, A, L, C, Z, hcs, _, hl, hm, hx, hr⟩
  · simp only [List.cons.injEq, and_true] at hcs
    subst hcs
    exact ⟨none, [], [], 0, rfl, Lists.nil _ _ _, by simp, by simp, by simp⟩
  · simp only [List.cons.injEq, and_true] at hcs
    subst hcs
    unfold maxLen at hm
    have hrow : ∀ r, r < len → Sl W (A r) (((Z r).take (L r)).map (Value.int k)) ∧ ((Z r).take (L r)).length = L r := fun r hrl => by
      obtain ⟨_, h2, h3, h4, h5, h6, h7⟩ := hr r (by omega)
      exact sl_of_cells h2 h4 h6 (fun a' e => (h7 a' e).2)
    refine ⟨some a, (List.range len).map fun r => ⟨A r, L r, C r⟩, (List.range len).map fun r => (Z r).take (L r), cap, by simp, ⟨⟨fun hne => ?_, fun j hj => ?_⟩, by simp, fun i hi => ?_⟩, by simp; omega, fun i => ?_, fun i x hxm => ?_⟩
    · have h0 : 0 < len := by
        rcases Nat.eq_zero_or_pos len with h | h
        · subst h; simp at hne
        · exact h
      obtain ⟨b, off, spot⟩ := a
      have hspot : spot = none := by simpa [Addr.add] using World.cell?_spot (hr 0 (by omega)).1
      subst hspot
      exact ⟨b, off, rfl⟩
    · simp only [List.length_map, List.length_range] at hj
      obtain ⟨b, off, spot⟩ := a
      have hspot : spot = none := by simpa [Addr.add] using World.cell?_spot (hr 0 (by omega)).1
      subst hspot
      have := (hr j (by omega)).1
      have e : (⟨b, off, none⟩ : Addr).add j = ⟨b, off + j, none⟩ := by unfold Addr.add; split <;> simp_all
      rw [e] at this
      simp only [elt]
      rw [this]
      simp [List.getD_eq_getElem?_getD, hj, SD.val]
    · simp only [List.length_map, List.length_range] at hi
      have := hrow i hi
      simp only [List.getD_eq_getElem?_getD, List.getElem?_map, List.getElem?_range hi, Option.map_some, Option.getD_some]
      exact ⟨this.1, this.2.symm⟩
    · by_cases hi : i < len
      · have := (hrow i hi).2
        obtain ⟨_, h2, h3, _⟩ := hr i (by omega)
        unfold maxLen at h3
        simp only [List.getD_eq_getElem?_getD, List.getElem?_map, List.getElem?_range hi, Option.map_some, Option.getD_some]
        omega
      · simp [List.getD_eq_getElem?_getD, hi]
    · by_cases hi : i < len
      · obtain ⟨_, _, _, _, h5, _⟩ := hr i (by omega)
        simp only [List.getD_eq_getElem?_getD, List.getElem?_map, List.getElem?_range hi, Option.map_some, Option.getD_some] at hxm
        exact h5 x (List.mem_of_mem_take hxm)
      · simp [List.getD_eq_getElem?_getD, hi] at hxm
end
end Go.W
namespace Go.Proofs.YthhfjagnmhhapaaGreat
open Go.W Go.ChangeShapes Go.WideShapes Go.ChangeAt Go.RowKit
set_option maxRecDepth 100000 in
theorem open_perms {H : Type} {enc : TypeId × Value → H} {W : World} {v : Value} {d : DataW H} {ps : List MemPlace} {r : Reach} {b0 : Nat} (hval : Value.okWide Tryz.prog W r b0 24 v) (h : DataW.Trod enc Tryz.prog W 0 (fun _ => true) true 24 v d ps) :
    ∃ (n : Int) (a : Option Addr) (sds : List SD) (Ls : List (List Int)) (c : Nat) (few : Bool), v = .agg (permsL n a Ls.length c few).toArray ∧ (0 ≤ n ∧ n ≤ 255) ∧ Lists W .i8 a sds Ls ∧ (∀ i, I8 (Ls.getD i [])) ∧ Ls.length ≤ 9223372036854775807 := by
  obtain ⟨f0, f1, f2, hs, h0, h1, h2⟩ : ∃ f0 f1 f2, Tryz.prog.underlying 24 = some (.struct #[f0, f1, f2]) ∧ f0.type = 5 ∧ f1.type = 22 ∧ f2.type = 4 :=
    ⟨(Tryz.prog.fieldsOf 24)[0]!, (Tryz.prog.fieldsOf 24)[1]!, (Tryz.prog.fieldsOf 24)[2]!, by kernel_rfl, by kernel_rfl, by kernel_rfl, by kernel_rfl⟩
  have hone : Deep.oneCellFields Tryz.prog #[f0, f1, f2] = true := by
    have e : Tryz.prog.underlying 24 = some (.struct (Tryz.prog.fieldsOf 24)) := by kernel_rfl
    rw [hs] at e
    simp only [Option.some.injEq, TypeDesc.struct.injEq] at e
    have hk : Deep.oneCellFields Tryz.prog (Tryz.prog.fieldsOf 24) = true := by kernel_rfl
    rw [e]; exact hk
  obtain ⟨c0, c1, c2, y0, y1, y2, m, rfl, rfl, rfl, q0, q1, q2⟩ := Joins.open_agg3 hs hone (by kernel_rfl) hval h
  rw [h0] at q0
  rw [h1] at q1
  rw [h2] at q2
  obtain ⟨n, hn, _, hw⟩ := DataW.trod_int (k := .u8) (by kernel_rfl) q0
  obtain ⟨a, sds, Ls, c, rfl, hL, hl, hle, hwf⟩ := open_rowsT (e := 42) (q := 110) (k := .i8) (by kernel_rfl) (by kernel_rfl) (by kernel_rfl) (by kernel_rfl) (by kernel_rfl) q1
  obtain ⟨few, hb, _⟩ := DataW.trod_bool (by kernel_rfl) q2
  simp only [List.cons.injEq, and_true] at hn hb
  subst hn; subst hb
  exact ⟨n, a, sds, Ls, c, few, rfl, wf_u8 hw, hL, fun i => ⟨hle i, fun x hx => wf_i8 (hwf i x hx)⟩, hl⟩
end Go.Proofs.YthhfjagnmhhapaaGreat

