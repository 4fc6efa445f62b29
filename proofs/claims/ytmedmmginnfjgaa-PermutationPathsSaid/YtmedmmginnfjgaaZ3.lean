import Derived.Test.YtmedmmginnfjgaaJ
import Derived.Test.YtmedmmginnfjgaaMem2
namespace Go.Proofs.Ytmedmmginnfjgaa
open Go.W Go.PM
abbrev permsL (pts : Int) (la : Option Addr) (n c : Nat) (few : Bool) : List Value := [.int .u8 pts, .slice la n c, .bool few]

theorem degree_spec {pts : Int} (hp : 0 ≤ pts ∧ pts ≤ 255) (la : Option Addr) (n c : Nat) (few : Bool) {most : Int} (hm : 0 < most ∧ most ≤ 1000) (w : World) :
    CallsR Try.prog 31 #[.agg (permsL pts la n c few).toArray, .int .i64 most] w fun v w' => v = .int .i64 (1 + pts % most) ∧ Ex w w' := by
  refine callsR_of (args := [_, _]) Try.func31 rfl rfl ?_
  have h1 : 0 ≤ pts % most := Int.emod_nonneg _ (by omega)
  have h2 : pts % most < most := Int.emod_lt_of_pos _ (by omega)
  repeat' (first | (refine k_boxA rfl (fun g w1 hn => ⟨fun _ _ => trivial, ?_⟩)) | (refine k_loadC rfl hn.blk rfl ?_) | (refine k_convI rfl (wrap_i64 (by omega) (by omega)) ?_) | (refine k_rem rfl rfl (by omega) (by omega) ?_) | (refine k_pure rfl ?_) | (refine then_normal ?_) | (refine cw_seq ?_) | (refine cw_region rfl ?_) | (refine rr_nil ?_) | (refine k_len rfl ?_) | (refine g_run rfl rfl ?_) | (refine g_skip rfl rfl ?_) | (refine g_dec_f rfl rfl (fun hc => ?_) (fun hc => ?_)) | (refine g_dec_t rfl rfl (fun hc => ?_) (fun hc => ?_)) | (refine g_ndec_f rfl rfl (fun hc => ?_) (fun hc => ?_)) | (refine g_ndec_t rfl rfl (fun hc => ?_) (fun hc => ?_)) | (refine g_split rfl rfl (fun hc => ?_) (fun hc => ?_)) | (refine k_addI rfl rfl (by omega) (by omega) ?_) | (refine k_subI rfl rfl (by omega) (by omega) ?_) | (refine k_fieldAddr rfl ?_) | (refine k_eqlB rfl rfl ?_) | (refine k_neqB rfl rfl ?_) | (refine cw_cond_true rfl ?_) | (refine cw_cond_false rfl ?_) | (refine cw_cond_dec rfl (fun hc => ?_) (fun hc => ?_)) | (refine cw_cond_ndec rfl (fun hc => ?_) (fun hc => ?_)) | (refine cw_cond rfl (fun hc => ?_) (fun hc => ?_)) | (refine cw_block ?_) | (refine cw_exit ?_) | (refine then_exit ?_) | (refine in_exit ?_) | (refine in_exit_ne rfl ?_) | (refine in_normal ?_) | (refine cw_ret ?_) | (refine then_ret ?_) | (refine in_ret ?_) | (refine cw_skip ?_))
  exact ret1 rfl (rt rfl) ⟨rfl, hn.ex⟩

/-- no two of the lists share memory -/
def Apart (sds : List SD) : Prop := ∀ i j, i < j → j < sds.length → ∀ ad ad', (sds.getD i sd0).a = some ad → (sds.getD j sd0).a = some ad' → ad.block ≠ ad'.block
theorem Apart.snoc {sds : List SD} {s : SD} (h : Apart sds) (hs : ∀ i, i < sds.length → ∀ ad ad', (sds.getD i sd0).a = some ad → s.a = some ad' → ad.block ≠ ad'.block) : Apart (sds ++ [s]) := by
  intro i j hij hj ad ad' e e'
  simp only [List.length_append, List.length_singleton] at hj
  rw [getD_snoc (by omega)] at e e'
  rw [if_pos (by omega)] at e
  by_cases h2 : j < sds.length
  · rw [if_pos h2] at e'; exact h i j hij h2 ad ad' e e'
  · rw [if_neg h2] at e'; exact hs i (by omega) ad ad' e e'
/-- generators that the statements make: at most three permutations of n points -/
def RetG (w : World) (n : Nat) (v : Value) (w' : World) : Prop :=
  ∃ b c sds xss, v = .slice b sds.length c ∧ OwnLists w' w.heap.size 22 3 .i64 b c sds xss ∧ xss.length ≤ 3 ∧ Gens n xss ∧ Apart sds ∧ Ex w w'
theorem gens_snoc {n : Nat} {xss : List (List Int)} {p : List Int} (h : Gens n xss) (h1 : p.length = n) (h2 : IsPerm p) : Gens n (xss ++ [p]) := fun q hq => by
  rcases List.mem_append.1 hq with h' | h'
  · exact h q h'
  · simp only [List.mem_singleton] at h'; subst h'; exact ⟨h1, h2⟩

theorem gens_false {pts most : Int} (hp : 0 ≤ pts ∧ pts ≤ 255) (hm : 0 < most ∧ most ≤ 500) {n : Nat} (hn : 1 + pts % most = (n : Int)) {la : Option Addr} {sds : List SD} {Ls : List (List Int)} {w : World} (hL : Lists w .i8 la sds Ls) (hI : ∀ i, I8 (Ls.getD i [])) (c : Nat) (hl : Ls.length ≤ 9223372036854775807) :
    CallsR Try.prog 32 #[.agg (permsL pts la Ls.length c false).toArray, .int .i64 most] w (RetG w n) := by
  have h1 : 0 ≤ pts % most := Int.emod_nonneg _ (by omega)
  have h2 : pts % most < most := Int.emod_lt_of_pos _ (by omega)
  have hsl := hL.len
  refine callsR_of (args := [_, _]) Try.func32 rfl rfl ?_
  repeat' (first | (refine k_boxA rfl (fun g w1 hn1 => ⟨fun _ _ => trivial, ?_⟩)) | (refine k_loadCA rfl hn1.blk rfl ?_) | (refine k_pure rfl ?_) | (refine then_normal ?_) | (refine cw_seq ?_) | (refine cw_region rfl ?_) | (refine rr_nil ?_) | (refine k_len rfl ?_) | (refine g_run rfl rfl ?_) | (refine g_skip rfl rfl ?_) | (refine g_dec_f rfl rfl (fun hc => ?_) (fun hc => ?_)) | (refine g_dec_t rfl rfl (fun hc => ?_) (fun hc => ?_)) | (refine g_ndec_f rfl rfl (fun hc => ?_) (fun hc => ?_)) | (refine g_ndec_t rfl rfl (fun hc => ?_) (fun hc => ?_)) | (refine g_split rfl rfl (fun hc => ?_) (fun hc => ?_)) | (refine k_addI rfl rfl (by omega) (by omega) ?_) | (refine k_subI rfl rfl (by omega) (by omega) ?_) | (refine k_fieldAddr rfl ?_) | (refine k_eqlB rfl rfl ?_) | (refine k_neqB rfl rfl ?_) | (refine cw_cond_true rfl ?_) | (refine cw_cond_false rfl ?_) | (refine cw_cond_dec rfl (fun hc => ?_) (fun hc => ?_)) | (refine cw_cond_ndec rfl (fun hc => ?_) (fun hc => ?_)) | (refine cw_cond rfl (fun hc => ?_) (fun hc => ?_)) | (refine cw_block ?_) | (refine cw_exit ?_) | (refine then_exit ?_) | (refine in_exit ?_) | (refine in_exit_ne rfl ?_) | (refine in_normal ?_) | (refine cw_ret ?_) | (refine then_ret ?_) | (refine in_ret ?_) | (refine cw_skip ?_))
  refine k_call (degree_spec hp _ _ _ _ (by omega) _) rfl ?_
  rintro v w2 ⟨rfl, hE2⟩
  refine ⟨fun _ _ => trivial, ?_⟩
  rw [hn]
  have hb2 := hn1.blk.ext hE2
  have hE02 := hn1.ex.trans hE2
  repeat' (first | (refine k_loadC rfl hb2 rfl ?_) | (refine k_pure rfl ?_) | (refine then_normal ?_) | (refine cw_seq ?_) | (refine cw_region rfl ?_) | (refine rr_nil ?_) | (refine k_len rfl ?_) | (refine g_run rfl rfl ?_) | (refine g_skip rfl rfl ?_) | (refine g_dec_f rfl rfl (fun hc => ?_) (fun hc => ?_)) | (refine g_dec_t rfl rfl (fun hc => ?_) (fun hc => ?_)) | (refine g_ndec_f rfl rfl (fun hc => ?_) (fun hc => ?_)) | (refine g_ndec_t rfl rfl (fun hc => ?_) (fun hc => ?_)) | (refine g_split rfl rfl (fun hc => ?_) (fun hc => ?_)) | (refine k_addI rfl rfl (by omega) (by omega) ?_) | (refine k_subI rfl rfl (by omega) (by omega) ?_) | (refine k_fieldAddr rfl ?_) | (refine k_eqlB rfl rfl ?_) | (refine k_neqB rfl rfl ?_) | (refine cw_cond_true rfl ?_) | (refine cw_cond_false rfl ?_) | (refine cw_cond_dec rfl (fun hc => ?_) (fun hc => ?_)) | (refine cw_cond_ndec rfl (fun hc => ?_) (fun hc => ?_)) | (refine cw_cond rfl (fun hc => ?_) (fun hc => ?_)) | (refine cw_block ?_) | (refine cw_exit ?_) | (refine then_exit ?_) | (refine in_exit ?_) | (refine in_exit_ne rfl ?_) | (refine in_normal ?_) | (refine cw_ret ?_) | (refine then_ret ?_) | (refine in_ret ?_) | (refine cw_skip ?_))
  refine cw_loop (ι := Nat × Option Addr × Nat × List SD × List (List Int)) [5, 7, 8, 9, 10, 11, 12, 13, 20, 21, 22, 23, 24, 25, 26, 27, 28, 29, 30, 31, 32, 33, 34, 35, 36, 37, 38, 39, 40, 41, 42, 43, 44, 45, 46, 47, 48, 49, 50, 51, 52, 53, 54, 55, 56, 57, 58, 59, 60, 61, 62, 63, 64, 65] (fun s => [(20, .int .i64 (s.1 : Int)), (5, .slice s.2.1 s.2.2.2.1.length s.2.2.1)])
    (fun s w' => s.1 ≤ Ls.length ∧ s.2.2.2.2.length ≤ 3 ∧ s.2.2.2.2.length = s.1 ∧ Ex w2 w' ∧ OwnLists w' w2.heap.size 22 3 .i64 s.2.1 s.2.2.1 s.2.2.2.1 s.2.2.2.2 ∧ Gens n s.2.2.2.2 ∧ Apart s.2.2.2.1) (fun s => Ls.length - s.1)
    (0, none, 0, [], []) ⟨rfl, rfl, trivial⟩ ⟨by simp, by simp, rfl, Ex.refl _, OwnLists.nil _ _ _ _ _, by intro p hp; simp at hp, by intro i j _ hj; simp at hj⟩ ?_
  rintro ⟨k, b, cc, ss, xss⟩ ξ w3 ⟨hk, hx3, hxk, hE3, hO, hG, hA⟩
  simp only at hk hx3 hxk hO hG hA
  have hol := hO.len
  have hE03 := hE02.trans hE3
  have s3 := hE3.size
  have hb3 := hb2.ext hE3
  have s2 := hE02.size
  have hL3 := hL.ext hE03
  show CW _ _ _ _ (over [(20, .int .i64 (k : Int)), (5, .slice b ss.length cc)] _) w3
  repeat' (first | (refine k_indexN rfl rfl (hL3.sl.plain (by simp; omega)) (by omega) ?_) | (refine k_loadS rfl hL3.sl (by omega) ?_) | (refine k_pure rfl ?_) | (refine then_normal ?_) | (refine cw_seq ?_) | (refine cw_region rfl ?_) | (refine rr_nil ?_) | (refine k_len rfl ?_) | (refine g_run rfl rfl ?_) | (refine g_skip rfl rfl ?_) | (refine g_dec_f rfl rfl (fun hc => ?_) (fun hc => ?_)) | (refine g_dec_t rfl rfl (fun hc => ?_) (fun hc => ?_)) | (refine g_ndec_f rfl rfl (fun hc => ?_) (fun hc => ?_)) | (refine g_ndec_t rfl rfl (fun hc => ?_) (fun hc => ?_)) | (refine g_split rfl rfl (fun hc => ?_) (fun hc => ?_)) | (refine k_addI rfl rfl (by omega) (by omega) ?_) | (refine k_subI rfl rfl (by omega) (by omega) ?_) | (refine k_fieldAddr rfl ?_) | (refine k_eqlB rfl rfl ?_) | (refine k_neqB rfl rfl ?_) | (refine cw_cond_true rfl ?_) | (refine cw_cond_false rfl ?_) | (refine cw_cond_dec rfl (fun hc => ?_) (fun hc => ?_)) | (refine cw_cond_ndec rfl (fun hc => ?_) (fun hc => ?_)) | (refine cw_cond rfl (fun hc => ?_) (fun hc => ?_)) | (refine cw_block ?_) | (refine cw_exit ?_) | (refine then_exit ?_) | (refine in_exit ?_) | (refine in_exit_ne rfl ?_) | (refine in_normal ?_) | (refine cw_ret ?_) | (refine then_ret ?_) | (refine in_ret ?_) | (refine cw_skip ?_))
  · exact ret1 rfl (rt rfl) ⟨b, cc, ss, xss, rfl, hO.mono s2, hx3, hG, hA, hE03⟩
  · obtain ⟨hl1, hl2⟩ := hL3.each k (by omega)
    rw [hl2]
    refine k_call (perm_spec hl1 (hI k) _ n (by omega) (by omega)) rfl ?_
    rintro v w4 ⟨b4, c4, rfl, hO4, hE4⟩
    refine ⟨fun _ _ => trivial, ?_⟩
    have hb4 := hb3.ext hE4
    have s4 := hE4.size
    have hP := permF_isPerm (Ls.getD k []) (n := n) (by omega) (by omega)
    have hPl := permF_length (Ls.getD k []) (n := n) (by omega)
    generalize permF (Ls.getD k []) n = p at *
    repeat' (first | (refine k_loadC rfl hb4 rfl ?_) | (refine k_pure rfl ?_) | (refine then_normal ?_) | (refine cw_seq ?_) | (refine cw_region rfl ?_) | (refine rr_nil ?_) | (refine k_len rfl ?_) | (refine g_run rfl rfl ?_) | (refine g_skip rfl rfl ?_) | (refine g_dec_f rfl rfl (fun hc => ?_) (fun hc => ?_)) | (refine g_dec_t rfl rfl (fun hc => ?_) (fun hc => ?_)) | (refine g_ndec_f rfl rfl (fun hc => ?_) (fun hc => ?_)) | (refine g_ndec_t rfl rfl (fun hc => ?_) (fun hc => ?_)) | (refine g_split rfl rfl (fun hc => ?_) (fun hc => ?_)) | (refine k_addI rfl rfl (by omega) (by omega) ?_) | (refine k_subI rfl rfl (by omega) (by omega) ?_) | (refine k_fieldAddr rfl ?_) | (refine k_eqlB rfl rfl ?_) | (refine k_neqB rfl rfl ?_) | (refine cw_cond_true rfl ?_) | (refine cw_cond_false rfl ?_) | (refine cw_cond_dec rfl (fun hc => ?_) (fun hc => ?_)) | (refine cw_cond_ndec rfl (fun hc => ?_) (fun hc => ?_)) | (refine cw_cond rfl (fun hc => ?_) (fun hc => ?_)) | (refine cw_block ?_) | (refine cw_exit ?_) | (refine then_exit ?_) | (refine in_exit ?_) | (refine in_exit_ne rfl ?_) | (refine in_normal ?_) | (refine cw_ret ?_) | (refine then_ret ?_) | (refine in_ret ?_) | (refine cw_skip ?_))
    have hOx := hO.ext hE4
    refine k_app1S rfl rfl rfl rfl hOx.top (by omega) (by omega) (by omega) (fun gl b9 c9 w9 hO9 hg9 hA9 => ?_)
    have hsep : ∀ ad ad', b = some ad → b4 = some ad' → ad.block ≠ ad'.block := fun ad ad' e e' => by have := (hO.top.lo ad e).2; have := (hO4.lo ad' e').1; omega
    have hL9 := hOx.snoc (hO4.mono (by omega)) hsep hO9 hg9 hA9
    repeat' (first | (refine k_pure rfl ?_) | (refine then_normal ?_) | (refine cw_seq ?_) | (refine cw_region rfl ?_) | (refine rr_nil ?_) | (refine k_len rfl ?_) | (refine g_run rfl rfl ?_) | (refine g_skip rfl rfl ?_) | (refine g_dec_f rfl rfl (fun hc => ?_) (fun hc => ?_)) | (refine g_dec_t rfl rfl (fun hc => ?_) (fun hc => ?_)) | (refine g_ndec_f rfl rfl (fun hc => ?_) (fun hc => ?_)) | (refine g_ndec_t rfl rfl (fun hc => ?_) (fun hc => ?_)) | (refine g_split rfl rfl (fun hc => ?_) (fun hc => ?_)) | (refine k_addI rfl rfl (by omega) (by omega) ?_) | (refine k_subI rfl rfl (by omega) (by omega) ?_) | (refine k_fieldAddr rfl ?_) | (refine k_eqlB rfl rfl ?_) | (refine k_neqB rfl rfl ?_) | (refine cw_cond_true rfl ?_) | (refine cw_cond_false rfl ?_) | (refine cw_cond_dec rfl (fun hc => ?_) (fun hc => ?_)) | (refine cw_cond_ndec rfl (fun hc => ?_) (fun hc => ?_)) | (refine cw_cond rfl (fun hc => ?_) (fun hc => ?_)) | (refine cw_block ?_) | (refine cw_exit ?_) | (refine then_exit ?_) | (refine in_exit ?_) | (refine in_exit_ne rfl ?_) | (refine in_normal ?_) | (refine cw_ret ?_) | (refine then_ret ?_) | (refine in_ret ?_) | (refine cw_skip ?_))
    refine ⟨⟨(k + 1, b9, c9, ss ++ [⟨b4, p.length, c4⟩], xss ++ [p]), ⟨by simp only; omega, by simp; omega, by simp [hxk], hOx.grow_ex hg9 (hE3.trans hE4) (Nat.le_refl _), hL9, gens_snoc hG hPl hP, hA.snoc (fun i hi ad ad' e e' => by have := ((hO.each i (by omega)).1.lo ad e).2; have := (hO4.lo ad' e').1; omega)⟩, by simp only; omega, rfl, ?_, trivial⟩, (by (repeat (first | exact agree_mask _ _ _ | refine agree_upd rfl ?_ | refine agree_updO rfl ?_ | refine agree_overIn rfl ?_ | refine agree_maskIn rfl ?_)))⟩
    simp only [List.length_append, List.length_singleton]; rfl
  · exact ret1 rfl (rt rfl) ⟨b, cc, ss, xss, rfl, hO.mono s2, hx3, hG, hA, hE03⟩

set_option maxHeartbeats 1000000 in
theorem gens_true {pts most : Int} (hp : 0 ≤ pts ∧ pts ≤ 255) (hm : 0 < most ∧ most ≤ 500) {n : Nat} (hn : 1 + pts % most = (n : Int)) {la : Option Addr} {sds : List SD} {Ls : List (List Int)} {w : World} (hL : Lists w .i8 la sds Ls) (hI : ∀ i, I8 (Ls.getD i [])) (c : Nat) (hl : Ls.length ≤ 9223372036854775807) :
    CallsR Try.prog 32 #[.agg (permsL pts la Ls.length c true).toArray, .int .i64 most] w (RetG w n) := by
  have h1 : 0 ≤ pts % most := Int.emod_nonneg _ (by omega)
  have h2 : pts % most < most := Int.emod_lt_of_pos _ (by omega)
  have hsl := hL.len
  refine callsR_of (args := [_, _]) Try.func32 rfl rfl ?_
  repeat' (first | (refine k_boxA rfl (fun g w1 hn1 => ⟨fun _ _ => trivial, ?_⟩)) | (refine k_loadCA rfl hn1.blk rfl ?_) | (refine k_pure rfl ?_) | (refine then_normal ?_) | (refine cw_seq ?_) | (refine cw_region rfl ?_) | (refine rr_nil ?_) | (refine k_len rfl ?_) | (refine g_run rfl rfl ?_) | (refine g_skip rfl rfl ?_) | (refine g_dec_f rfl rfl (fun hc => ?_) (fun hc => ?_)) | (refine g_dec_t rfl rfl (fun hc => ?_) (fun hc => ?_)) | (refine g_ndec_f rfl rfl (fun hc => ?_) (fun hc => ?_)) | (refine g_ndec_t rfl rfl (fun hc => ?_) (fun hc => ?_)) | (refine g_split rfl rfl (fun hc => ?_) (fun hc => ?_)) | (refine k_addI rfl rfl (by omega) (by omega) ?_) | (refine k_subI rfl rfl (by omega) (by omega) ?_) | (refine k_fieldAddr rfl ?_) | (refine k_eqlB rfl rfl ?_) | (refine k_neqB rfl rfl ?_) | (refine cw_cond_true rfl ?_) | (refine cw_cond_false rfl ?_) | (refine cw_cond_dec rfl (fun hc => ?_) (fun hc => ?_)) | (refine cw_cond_ndec rfl (fun hc => ?_) (fun hc => ?_)) | (refine cw_cond rfl (fun hc => ?_) (fun hc => ?_)) | (refine cw_block ?_) | (refine cw_exit ?_) | (refine then_exit ?_) | (refine in_exit ?_) | (refine in_exit_ne rfl ?_) | (refine in_normal ?_) | (refine cw_ret ?_) | (refine then_ret ?_) | (refine in_ret ?_) | (refine cw_skip ?_))
  refine k_call (degree_spec hp _ _ _ _ (by omega) _) rfl ?_
  rintro v w2 ⟨rfl, hE2⟩
  refine ⟨fun _ _ => trivial, ?_⟩
  rw [hn]
  have hb2 := hn1.blk.ext hE2
  have hE02 := hn1.ex.trans hE2
  repeat' (first | (refine k_loadC rfl hb2 rfl ?_) | (refine k_pure rfl ?_) | (refine then_normal ?_) | (refine cw_seq ?_) | (refine cw_region rfl ?_) | (refine rr_nil ?_) | (refine k_len rfl ?_) | (refine g_run rfl rfl ?_) | (refine g_skip rfl rfl ?_) | (refine g_dec_f rfl rfl (fun hc => ?_) (fun hc => ?_)) | (refine g_dec_t rfl rfl (fun hc => ?_) (fun hc => ?_)) | (refine g_ndec_f rfl rfl (fun hc => ?_) (fun hc => ?_)) | (refine g_ndec_t rfl rfl (fun hc => ?_) (fun hc => ?_)) | (refine g_split rfl rfl (fun hc => ?_) (fun hc => ?_)) | (refine k_addI rfl rfl (by omega) (by omega) ?_) | (refine k_subI rfl rfl (by omega) (by omega) ?_) | (refine k_fieldAddr rfl ?_) | (refine k_eqlB rfl rfl ?_) | (refine k_neqB rfl rfl ?_) | (refine cw_cond_true rfl ?_) | (refine cw_cond_false rfl ?_) | (refine cw_cond_dec rfl (fun hc => ?_) (fun hc => ?_)) | (refine cw_cond_ndec rfl (fun hc => ?_) (fun hc => ?_)) | (refine cw_cond rfl (fun hc => ?_) (fun hc => ?_)) | (refine cw_block ?_) | (refine cw_exit ?_) | (refine then_exit ?_) | (refine in_exit ?_) | (refine in_exit_ne rfl ?_) | (refine in_normal ?_) | (refine cw_ret ?_) | (refine then_ret ?_) | (refine in_ret ?_) | (refine cw_skip ?_))
  refine cw_loop (ι := Nat × Option Addr × Nat × List SD × List (List Int)) [5, 7, 8, 9, 10, 11, 12, 13, 20, 21, 22, 23, 24, 25, 26, 27, 28, 29, 30, 31, 32, 33, 34, 35, 36, 37, 38, 39, 40, 41, 42, 43, 44, 45, 46, 47, 48, 49, 50, 51, 52, 53, 54, 55, 56, 57, 58, 59, 60, 61, 62, 63, 64, 65] (fun s => [(20, .int .i64 (s.1 : Int)), (5, .slice s.2.1 s.2.2.2.1.length s.2.2.1)])
    (fun s w' => s.1 ≤ Ls.length ∧ s.2.2.2.2.length ≤ 3 ∧ s.2.2.2.2.length = s.1 ∧ Ex w2 w' ∧ OwnLists w' w2.heap.size 22 3 .i64 s.2.1 s.2.2.1 s.2.2.2.1 s.2.2.2.2 ∧ Gens n s.2.2.2.2 ∧ Apart s.2.2.2.1) (fun s => Ls.length - s.1)
    (0, none, 0, [], []) ⟨rfl, rfl, trivial⟩ ⟨by simp, by simp, rfl, Ex.refl _, OwnLists.nil _ _ _ _ _, by intro p hp; simp at hp, by intro i j _ hj; simp at hj⟩ ?_
  rintro ⟨k, b, cc, ss, xss⟩ ξ w3 ⟨hk, hx3, hxk, hE3, hO, hG, hA⟩
  simp only at hk hx3 hxk hO hG hA
  have hol := hO.len
  have hE03 := hE02.trans hE3
  have s3 := hE3.size
  have hb3 := hb2.ext hE3
  have s2 := hE02.size
  have hL3 := hL.ext hE03
  show CW _ _ _ _ (over [(20, .int .i64 (k : Int)), (5, .slice b ss.length cc)] _) w3
  repeat' (first | (refine k_indexN rfl rfl (hL3.sl.plain (by simp; omega)) (by omega) ?_) | (refine k_loadS rfl hL3.sl (by omega) ?_) | (refine k_pure rfl ?_) | (refine then_normal ?_) | (refine cw_seq ?_) | (refine cw_region rfl ?_) | (refine rr_nil ?_) | (refine k_len rfl ?_) | (refine g_run rfl rfl ?_) | (refine g_skip rfl rfl ?_) | (refine g_dec_f rfl rfl (fun hc => ?_) (fun hc => ?_)) | (refine g_dec_t rfl rfl (fun hc => ?_) (fun hc => ?_)) | (refine g_ndec_f rfl rfl (fun hc => ?_) (fun hc => ?_)) | (refine g_ndec_t rfl rfl (fun hc => ?_) (fun hc => ?_)) | (refine g_split rfl rfl (fun hc => ?_) (fun hc => ?_)) | (refine k_addI rfl rfl (by omega) (by omega) ?_) | (refine k_subI rfl rfl (by omega) (by omega) ?_) | (refine k_fieldAddr rfl ?_) | (refine k_eqlB rfl rfl ?_) | (refine k_neqB rfl rfl ?_) | (refine cw_cond_true rfl ?_) | (refine cw_cond_false rfl ?_) | (refine cw_cond_dec rfl (fun hc => ?_) (fun hc => ?_)) | (refine cw_cond_ndec rfl (fun hc => ?_) (fun hc => ?_)) | (refine cw_cond rfl (fun hc => ?_) (fun hc => ?_)) | (refine cw_block ?_) | (refine cw_exit ?_) | (refine then_exit ?_) | (refine in_exit ?_) | (refine in_exit_ne rfl ?_) | (refine in_normal ?_) | (refine cw_ret ?_) | (refine then_ret ?_) | (refine in_ret ?_) | (refine cw_skip ?_))
  · exact ret1 rfl (rt rfl) ⟨b, cc, ss, xss, rfl, hO.mono s2, hx3, hG, hA, hE03⟩
  · obtain ⟨hl1, hl2⟩ := hL3.each k (by omega)
    rw [hl2]
    refine k_call (perm_spec hl1 (hI k) _ n (by omega) (by omega)) rfl ?_
    rintro v w4 ⟨b4, c4, rfl, hO4, hE4⟩
    refine ⟨fun _ _ => trivial, ?_⟩
    have hb4 := hb3.ext hE4
    have s4 := hE4.size
    repeat' (first | (refine k_loadC rfl hb4 rfl ?_) | (refine k_pure rfl ?_) | (refine then_normal ?_) | (refine cw_seq ?_) | (refine cw_region rfl ?_) | (refine rr_nil ?_) | (refine k_len rfl ?_) | (refine g_run rfl rfl ?_) | (refine g_skip rfl rfl ?_) | (refine g_dec_f rfl rfl (fun hc => ?_) (fun hc => ?_)) | (refine g_dec_t rfl rfl (fun hc => ?_) (fun hc => ?_)) | (refine g_ndec_f rfl rfl (fun hc => ?_) (fun hc => ?_)) | (refine g_ndec_t rfl rfl (fun hc => ?_) (fun hc => ?_)) | (refine g_split rfl rfl (fun hc => ?_) (fun hc => ?_)) | (refine k_addI rfl rfl (by omega) (by omega) ?_) | (refine k_subI rfl rfl (by omega) (by omega) ?_) | (refine k_fieldAddr rfl ?_) | (refine k_eqlB rfl rfl ?_) | (refine k_neqB rfl rfl ?_) | (refine cw_cond_true rfl ?_) | (refine cw_cond_false rfl ?_) | (refine cw_cond_dec rfl (fun hc => ?_) (fun hc => ?_)) | (refine cw_cond_ndec rfl (fun hc => ?_) (fun hc => ?_)) | (refine cw_cond rfl (fun hc => ?_) (fun hc => ?_)) | (refine cw_block ?_) | (refine cw_exit ?_) | (refine then_exit ?_) | (refine in_exit ?_) | (refine in_exit_ne rfl ?_) | (refine in_normal ?_) | (refine cw_ret ?_) | (refine then_ret ?_) | (refine in_ret ?_) | (refine cw_skip ?_))
    refine k_call (perm_spec (L := []) (la := none) (Sl.nil _ _) ⟨by simp, by simp⟩ 0 n (by omega) (by omega)) rfl ?_
    rintro v w5 ⟨b5, c5, rfl, hO5, hE5⟩
    refine ⟨fun _ _ => trivial, ?_⟩
    have s5 := hE5.size
    have hP := permF_isPerm [] (n := n) (by omega) (by omega)
    have hPl := permF_length [] (n := n) (by omega)
    generalize permF [] n = p0 at *
    generalize hlk : Ls.getD k [] = L at *
    have hIL : I8 L := by rw [← hlk]; exact hI k
    generalize hla : (sds.getD k ⟨none, 0, 0⟩) = sk at *
    repeat' (first | (refine k_build (cs := tapeL sk.a L.length sk.cap 0) rfl ?_) | (refine k_boxA rfl (fun gt w6 hn6 => ⟨fun _ _ => trivial, ?_⟩)) | (refine k_pure rfl ?_) | (refine then_normal ?_) | (refine cw_seq ?_) | (refine cw_region rfl ?_) | (refine rr_nil ?_) | (refine k_len rfl ?_) | (refine g_run rfl rfl ?_) | (refine g_skip rfl rfl ?_) | (refine g_dec_f rfl rfl (fun hc => ?_) (fun hc => ?_)) | (refine g_dec_t rfl rfl (fun hc => ?_) (fun hc => ?_)) | (refine g_ndec_f rfl rfl (fun hc => ?_) (fun hc => ?_)) | (refine g_ndec_t rfl rfl (fun hc => ?_) (fun hc => ?_)) | (refine g_split rfl rfl (fun hc => ?_) (fun hc => ?_)) | (refine k_addI rfl rfl (by omega) (by omega) ?_) | (refine k_subI rfl rfl (by omega) (by omega) ?_) | (refine k_fieldAddr rfl ?_) | (refine k_eqlB rfl rfl ?_) | (refine k_neqB rfl rfl ?_) | (refine cw_cond_true rfl ?_) | (refine cw_cond_false rfl ?_) | (refine cw_cond_dec rfl (fun hc => ?_) (fun hc => ?_)) | (refine cw_cond_ndec rfl (fun hc => ?_) (fun hc => ?_)) | (refine cw_cond rfl (fun hc => ?_) (fun hc => ?_)) | (refine cw_block ?_) | (refine cw_exit ?_) | (refine then_exit ?_) | (refine in_exit ?_) | (refine in_exit_ne rfl ?_) | (refine in_normal ?_) | (refine cw_ret ?_) | (refine then_ret ?_) | (refine in_ret ?_) | (refine cw_skip ?_))
    have l6 := hn6.lo
    have l6' := hn6.hi
    have hl5 : Sl w5 sk.a (int8L L) := by
      have := (hl1.ext hE4).ext hE5
      simpa [hla] using this
    have hne : 0 < L.length → ∀ ad, sk.a = some ad → ad.block ≠ gt := fun h ad e => by have := hl5.lt (by simpa using h) ad e; omega
    have hE46 : Ex w4 w6 := hE5.trans hn6.ex
    refine cw_loop (ι := Nat × Nat × List Int) [11, 12, 13, 37, 38, 39, 40, 41, 42, 43, 44, 45, 46, 47, 48, 49, 50, 51, 52, 53, 54, 55, 56, 57, 58, 59, 60] (fun s => [(11, .int .i64 (s.1 : Int))])
      (fun s w' => s.1 ≤ 2 ∧ Ex w4 w' ∧ w6.heap.size ≤ w'.heap.size ∧ Blk w' gt 77 (tapeL sk.a L.length sk.cap s.2.1) ∧ s.2.1 ≤ L.length ∧ Own w' w4.heap.size 3 1 b5 p0.length c5 (intsL s.2.2) ∧ s.2.2.length = n ∧ Dist n s.2.2) (fun s => 2 - s.1)
      (0, 0, p0) ⟨rfl, trivial⟩ ⟨by simp, hE46, Nat.le_refl _, hn6.blk, by simp, hO5.ext hn6.ex, hPl, by rw [← hPl]; exact hP.2.2⟩ ?_
    rintro ⟨i, m, p⟩ ξ2 w7 ⟨hi, hE7, hs7, hbt, hml, hO7, hpl, hd⟩
    simp only at hi hbt hml hO7 hpl hd
    show CW _ _ _ _ (over [(11, .int .i64 (i : Int))] _) w7
    repeat' (first | (refine k_pure rfl ?_) | (refine then_normal ?_) | (refine cw_seq ?_) | (refine cw_region rfl ?_) | (refine rr_nil ?_) | (refine k_len rfl ?_) | (refine g_run rfl rfl ?_) | (refine g_skip rfl rfl ?_) | (refine g_dec_f rfl rfl (fun hc => ?_) (fun hc => ?_)) | (refine g_dec_t rfl rfl (fun hc => ?_) (fun hc => ?_)) | (refine g_ndec_f rfl rfl (fun hc => ?_) (fun hc => ?_)) | (refine g_ndec_t rfl rfl (fun hc => ?_) (fun hc => ?_)) | (refine g_split rfl rfl (fun hc => ?_) (fun hc => ?_)) | (refine k_addI rfl rfl (by omega) (by omega) ?_) | (refine k_subI rfl rfl (by omega) (by omega) ?_) | (refine k_fieldAddr rfl ?_) | (refine k_eqlB rfl rfl ?_) | (refine k_neqB rfl rfl ?_) | (refine cw_cond_true rfl ?_) | (refine cw_cond_false rfl ?_) | (refine cw_cond_dec rfl (fun hc => ?_) (fun hc => ?_)) | (refine cw_cond_ndec rfl (fun hc => ?_) (fun hc => ?_)) | (refine cw_cond rfl (fun hc => ?_) (fun hc => ?_)) | (refine cw_block ?_) | (refine cw_exit ?_) | (refine then_exit ?_) | (refine in_exit ?_) | (refine in_exit_ne rfl ?_) | (refine in_normal ?_) | (refine cw_ret ?_) | (refine then_ret ?_) | (refine in_ret ?_) | (refine cw_skip ?_))
    · have hlw : Ex w5 w7 ∨ True := .inr trivial
      have hl7 : Sl w7 sk.a (int8L L) := by
        have := (hl1.ext hE4).ext hE7
        simpa [hla] using this
      refine k_call (below_spec hbt hl7 hIL hne hml _ (by omega)) rfl ?_
      rintro v w8 ⟨rfl, hc8, hb8⟩
      refine ⟨fun _ _ => trivial, ?_⟩
      have s8 := hc8.size
      have hm8 := tAt_le hml
      have hO8 := hO7.chg hc8 (fun ad e => by have h1 := (hO5.lo ad e).2; omega)
      have hE8 : Ex w4 w8 := hE7.chg hc8 (by omega)
      have hl8 : Sl w8 sk.a (int8L L) := by
        have := (hl1.ext hE4).ext hE8
        simpa [hla] using this
      repeat' (first | (refine k_pure rfl ?_) | (refine then_normal ?_) | (refine cw_seq ?_) | (refine cw_region rfl ?_) | (refine rr_nil ?_) | (refine k_len rfl ?_) | (refine g_run rfl rfl ?_) | (refine g_skip rfl rfl ?_) | (refine g_dec_f rfl rfl (fun hc => ?_) (fun hc => ?_)) | (refine g_dec_t rfl rfl (fun hc => ?_) (fun hc => ?_)) | (refine g_ndec_f rfl rfl (fun hc => ?_) (fun hc => ?_)) | (refine g_ndec_t rfl rfl (fun hc => ?_) (fun hc => ?_)) | (refine g_split rfl rfl (fun hc => ?_) (fun hc => ?_)) | (refine k_addI rfl rfl (by omega) (by omega) ?_) | (refine k_subI rfl rfl (by omega) (by omega) ?_) | (refine k_fieldAddr rfl ?_) | (refine k_eqlB rfl rfl ?_) | (refine k_neqB rfl rfl ?_) | (refine cw_cond_true rfl ?_) | (refine cw_cond_false rfl ?_) | (refine cw_cond_dec rfl (fun hc => ?_) (fun hc => ?_)) | (refine cw_cond_ndec rfl (fun hc => ?_) (fun hc => ?_)) | (refine cw_cond rfl (fun hc => ?_) (fun hc => ?_)) | (refine cw_block ?_) | (refine cw_exit ?_) | (refine then_exit ?_) | (refine in_exit ?_) | (refine in_exit_ne rfl ?_) | (refine in_normal ?_) | (refine cw_ret ?_) | (refine then_ret ?_) | (refine in_ret ?_) | (refine cw_skip ?_))
      refine k_call (below_spec hb8 hl8 hIL hne hm8 _ (by omega)) rfl ?_
      rintro v w9 ⟨rfl, hc9, hb9⟩
      refine ⟨fun _ _ => trivial, ?_⟩
      have s9 := hc9.size
      have hm9 := tAt_le hm8
      have hO9 := hO8.chg hc9 (fun ad e => by have h1 := (hO5.lo ad e).2; omega)
      have hE9 : Ex w4 w9 := hE8.chg hc9 (by omega)
      have q1 : 0 ≤ L.getD m 0 % 256 % (n : Int) ∧ L.getD m 0 % 256 % (n : Int) < n := ⟨Int.emod_nonneg _ (by omega), Int.emod_lt_of_pos _ (by omega)⟩
      have q2 : 0 ≤ L.getD (tAt L m) 0 % 256 % (n : Int) ∧ L.getD (tAt L m) 0 % 256 % (n : Int) < n := ⟨Int.emod_nonneg _ (by omega), Int.emod_lt_of_pos _ (by omega)⟩
      obtain ⟨x, hx⟩ : ∃ x : Nat, L.getD m 0 % 256 % (n : Int) = x := ⟨_, (Int.toNat_of_nonneg q1.1).symm⟩
      obtain ⟨y, hy⟩ : ∃ y : Nat, L.getD (tAt L m) 0 % 256 % (n : Int) = y := ⟨_, (Int.toNat_of_nonneg q2.1).symm⟩
      rw [hx] at q1 ⊢
      rw [hy] at q2 ⊢
      repeat' (first | (refine k_pure rfl ?_) | (refine then_normal ?_) | (refine cw_seq ?_) | (refine cw_region rfl ?_) | (refine rr_nil ?_) | (refine k_len rfl ?_) | (refine g_run rfl rfl ?_) | (refine g_skip rfl rfl ?_) | (refine g_dec_f rfl rfl (fun hc => ?_) (fun hc => ?_)) | (refine g_dec_t rfl rfl (fun hc => ?_) (fun hc => ?_)) | (refine g_ndec_f rfl rfl (fun hc => ?_) (fun hc => ?_)) | (refine g_ndec_t rfl rfl (fun hc => ?_) (fun hc => ?_)) | (refine g_split rfl rfl (fun hc => ?_) (fun hc => ?_)) | (refine k_addI rfl rfl (by omega) (by omega) ?_) | (refine k_subI rfl rfl (by omega) (by omega) ?_) | (refine k_fieldAddr rfl ?_) | (refine k_eqlB rfl rfl ?_) | (refine k_neqB rfl rfl ?_) | (refine cw_cond_true rfl ?_) | (refine cw_cond_false rfl ?_) | (refine cw_cond_dec rfl (fun hc => ?_) (fun hc => ?_)) | (refine cw_cond_ndec rfl (fun hc => ?_) (fun hc => ?_)) | (refine cw_cond rfl (fun hc => ?_) (fun hc => ?_)) | (refine cw_block ?_) | (refine cw_exit ?_) | (refine then_exit ?_) | (refine in_exit ?_) | (refine in_exit_ne rfl ?_) | (refine in_normal ?_) | (refine cw_ret ?_) | (refine then_ret ?_) | (refine in_ret ?_) | (refine cw_skip ?_))
      have hpll : p0.length = n := hPl
      have hpn := hO9.sl.plain (by simp; omega)
      refine cw_draw (late := [13, 15]) (plan := [(0, none), (1, none), (2, none), (3, none), (4, none), (5, none), (6, none), (7, none), (8, none), (9, none), (10, none), (11, none), (12, none), (13, some false), (14, none), (15, some false)]) (fun w' => Own w' w4.heap.size 3 1 b5 p0.length c5 (intsL p)) mixed (by kernel_rfl) hO9.drew ?_
      repeat' (first | (refine k_indexN rfl rfl hpn (by omega) ?_) | (refine k_loadI rfl (fun _ h => h.sl) (by omega) ?_) | (refine k_pure rfl ?_) | (refine then_normal ?_) | (refine cw_seq ?_) | (refine cw_region rfl ?_) | (refine rr_nil ?_) | (refine k_len rfl ?_) | (refine g_run rfl rfl ?_) | (refine g_skip rfl rfl ?_) | (refine g_dec_f rfl rfl (fun hc => ?_) (fun hc => ?_)) | (refine g_dec_t rfl rfl (fun hc => ?_) (fun hc => ?_)) | (refine g_ndec_f rfl rfl (fun hc => ?_) (fun hc => ?_)) | (refine g_ndec_t rfl rfl (fun hc => ?_) (fun hc => ?_)) | (refine g_split rfl rfl (fun hc => ?_) (fun hc => ?_)) | (refine k_addI rfl rfl (by omega) (by omega) ?_) | (refine k_subI rfl rfl (by omega) (by omega) ?_) | (refine k_fieldAddr rfl ?_) | (refine k_eqlB rfl rfl ?_) | (refine k_neqB rfl rfl ?_) | (refine cw_cond_true rfl ?_) | (refine cw_cond_false rfl ?_) | (refine cw_cond_dec rfl (fun hc => ?_) (fun hc => ?_)) | (refine cw_cond_ndec rfl (fun hc => ?_) (fun hc => ?_)) | (refine cw_cond rfl (fun hc => ?_) (fun hc => ?_)) | (refine cw_block ?_) | (refine cw_exit ?_) | (refine then_exit ?_) | (refine in_exit ?_) | (refine in_exit_ne rfl ?_) | (refine in_normal ?_) | (refine cw_ret ?_) | (refine then_ret ?_) | (refine in_ret ?_) | (refine cw_skip ?_))
      refine k_storeOwn rfl rfl rfl hO9.drew (by simp; omega) (fun gb w10 hgb hlo10 hc10 hO10 => ⟨fun h => absurd h (by decide), ?_⟩)
      replace hO10 := hO10.setI
      repeat' (first | (refine k_indexN rfl rfl hpn (by omega) ?_) | (refine k_pure rfl ?_) | (refine then_normal ?_) | (refine cw_seq ?_) | (refine cw_region rfl ?_) | (refine rr_nil ?_) | (refine k_len rfl ?_) | (refine g_run rfl rfl ?_) | (refine g_skip rfl rfl ?_) | (refine g_dec_f rfl rfl (fun hc => ?_) (fun hc => ?_)) | (refine g_dec_t rfl rfl (fun hc => ?_) (fun hc => ?_)) | (refine g_ndec_f rfl rfl (fun hc => ?_) (fun hc => ?_)) | (refine g_ndec_t rfl rfl (fun hc => ?_) (fun hc => ?_)) | (refine g_split rfl rfl (fun hc => ?_) (fun hc => ?_)) | (refine k_addI rfl rfl (by omega) (by omega) ?_) | (refine k_subI rfl rfl (by omega) (by omega) ?_) | (refine k_fieldAddr rfl ?_) | (refine k_eqlB rfl rfl ?_) | (refine k_neqB rfl rfl ?_) | (refine cw_cond_true rfl ?_) | (refine cw_cond_false rfl ?_) | (refine cw_cond_dec rfl (fun hc => ?_) (fun hc => ?_)) | (refine cw_cond_ndec rfl (fun hc => ?_) (fun hc => ?_)) | (refine cw_cond rfl (fun hc => ?_) (fun hc => ?_)) | (refine cw_block ?_) | (refine cw_exit ?_) | (refine then_exit ?_) | (refine in_exit ?_) | (refine in_exit_ne rfl ?_) | (refine in_normal ?_) | (refine cw_ret ?_) | (refine then_ret ?_) | (refine in_ret ?_) | (refine cw_skip ?_))
      refine k_storeOwn rfl rfl rfl hO10 (by simp; omega) (fun gb2 w11 hgb2 hlo11 hc11 hO11 => ⟨fun h => absurd h (by decide), ?_⟩)
      replace hO11 := hO11.setI
      obtain rfl : gb = gb2 := by rw [hgb] at hgb2; simpa using hgb2
      have hng : gt ≠ gb := by have h1 : gb < w5.heap.size := (hO5.lo _ hgb).2; omega
      have s10 := hc10.size
      have s11 := hc11.size
      have s9d : w9.drew.heap.size = w9.heap.size := rfl
      repeat' (first | (refine k_pure rfl ?_) | (refine then_normal ?_) | (refine cw_seq ?_) | (refine cw_region rfl ?_) | (refine rr_nil ?_) | (refine k_len rfl ?_) | (refine g_run rfl rfl ?_) | (refine g_skip rfl rfl ?_) | (refine g_dec_f rfl rfl (fun hc => ?_) (fun hc => ?_)) | (refine g_dec_t rfl rfl (fun hc => ?_) (fun hc => ?_)) | (refine g_ndec_f rfl rfl (fun hc => ?_) (fun hc => ?_)) | (refine g_ndec_t rfl rfl (fun hc => ?_) (fun hc => ?_)) | (refine g_split rfl rfl (fun hc => ?_) (fun hc => ?_)) | (refine k_addI rfl rfl (by omega) (by omega) ?_) | (refine k_subI rfl rfl (by omega) (by omega) ?_) | (refine k_fieldAddr rfl ?_) | (refine k_eqlB rfl rfl ?_) | (refine k_neqB rfl rfl ?_) | (refine cw_cond_true rfl ?_) | (refine cw_cond_false rfl ?_) | (refine cw_cond_dec rfl (fun hc => ?_) (fun hc => ?_)) | (refine cw_cond_ndec rfl (fun hc => ?_) (fun hc => ?_)) | (refine cw_cond rfl (fun hc => ?_) (fun hc => ?_)) | (refine cw_block ?_) | (refine cw_exit ?_) | (refine then_exit ?_) | (refine in_exit ?_) | (refine in_exit_ne rfl ?_) | (refine in_normal ?_) | (refine cw_ret ?_) | (refine then_ret ?_) | (refine in_ret ?_) | (refine cw_skip ?_))
      exact ⟨⟨(i + 1, tAt L (tAt L m), swapL p x y), ⟨by simp only; omega, (hE9.drew.chg hc10 hlo10).chg hc11 hlo11, by omega, ((hb9.drew).chg hc10 hng).chg hc11 hng, hm9, hO11, by simp only [swapL_length, hpl], swapL_dist (by omega) (by omega) hd⟩, by simp only; omega, rfl, trivial⟩, (by (repeat (first | exact agree_mask _ _ _ | refine agree_upd rfl ?_ | refine agree_updO rfl ?_ | refine agree_overIn rfl ?_ | refine agree_maskIn rfl ?_)))⟩
    · have hPp : IsPerm p := ⟨by omega, by omega, by rw [hpl]; exact hd⟩
      have hOx := (hO.ext hE4).ext hE7
      have s7 := hE7.size
      rw [show p0.length = p.length by omega] at hO7 ⊢
      refine k_app1S rfl rfl rfl rfl hOx.top (by omega) (by omega) (by omega) (fun gl b9 c9 w9 hO9 hg9 hA9 => ?_)
      have hsep : ∀ ad ad', b = some ad → b5 = some ad' → ad.block ≠ ad'.block := fun ad ad' e e' => by have := (hO.top.lo ad e).2; have := (hO5.lo ad' e').1; omega
      have hL9 := hOx.snoc (hO7.mono (by omega)) hsep hO9 hg9 hA9
      repeat' (first | (refine k_pure rfl ?_) | (refine then_normal ?_) | (refine cw_seq ?_) | (refine cw_region rfl ?_) | (refine rr_nil ?_) | (refine k_len rfl ?_) | (refine g_run rfl rfl ?_) | (refine g_skip rfl rfl ?_) | (refine g_dec_f rfl rfl (fun hc => ?_) (fun hc => ?_)) | (refine g_dec_t rfl rfl (fun hc => ?_) (fun hc => ?_)) | (refine g_ndec_f rfl rfl (fun hc => ?_) (fun hc => ?_)) | (refine g_ndec_t rfl rfl (fun hc => ?_) (fun hc => ?_)) | (refine g_split rfl rfl (fun hc => ?_) (fun hc => ?_)) | (refine k_addI rfl rfl (by omega) (by omega) ?_) | (refine k_subI rfl rfl (by omega) (by omega) ?_) | (refine k_fieldAddr rfl ?_) | (refine k_eqlB rfl rfl ?_) | (refine k_neqB rfl rfl ?_) | (refine cw_cond_true rfl ?_) | (refine cw_cond_false rfl ?_) | (refine cw_cond_dec rfl (fun hc => ?_) (fun hc => ?_)) | (refine cw_cond_ndec rfl (fun hc => ?_) (fun hc => ?_)) | (refine cw_cond rfl (fun hc => ?_) (fun hc => ?_)) | (refine cw_block ?_) | (refine cw_exit ?_) | (refine then_exit ?_) | (refine in_exit ?_) | (refine in_exit_ne rfl ?_) | (refine in_normal ?_) | (refine cw_ret ?_) | (refine then_ret ?_) | (refine in_ret ?_) | (refine cw_skip ?_))
      refine ⟨⟨(k + 1, b9, c9, ss ++ [⟨b5, p.length, c5⟩], xss ++ [p]), ⟨by simp only; omega, by simp; omega, by simp [hxk], hOx.grow_ex hg9 ((hE3.trans hE4).trans hE7) (Nat.le_refl _), hL9, gens_snoc hG hpl hPp, hA.snoc (fun i hi ad ad' e e' => by have := ((hO.each i (by omega)).1.lo ad e).2; have := (hO5.lo ad' e').1; omega)⟩, by simp only; omega, rfl, ?_, trivial⟩, (by (repeat (first | exact agree_mask _ _ _ | refine agree_upd rfl ?_ | refine agree_updO rfl ?_ | refine agree_overIn rfl ?_ | refine agree_maskIn rfl ?_)))⟩
      simp only [List.length_append, List.length_singleton]; rfl
  · exact ret1 rfl (rt rfl) ⟨b, cc, ss, xss, rfl, hO.mono s2, hx3, hG, hA, hE03⟩
theorem gens_spec {pts most : Int} (hp : 0 ≤ pts ∧ pts ≤ 255) (hm : 0 < most ∧ most ≤ 500) {n : Nat} (hn : 1 + pts % most = (n : Int)) {la : Option Addr} {sds : List SD} {Ls : List (List Int)} {w : World} (hL : Lists w .i8 la sds Ls) (hI : ∀ i, I8 (Ls.getD i [])) (c : Nat) (hl : Ls.length ≤ 9223372036854775807) (few : Bool) :
    CallsR Try.prog 32 #[.agg (permsL pts la Ls.length c few).toArray, .int .i64 most] w (RetG w n) := by
  cases few
  · exact gens_false hp hm hn hL hI c hl
  · exact gens_true hp hm hn hL hI c hl
end Go.Proofs.Ytmedmmginnfjgaa
