/- Plain mathematics for the layer 16: sets as words, permutations as lists. No program in sight. -/

import Derived.Test.YthhfjagnmhhapaaGreatE01
import Derived.Test.YthhfjagnmhhapaaGreatE02
namespace Go.PM

/-- the words of a set -/
def bit (ws : List Nat) (x : Nat) : Bool := (ws.getD (x / 64) 0).testBit (x % 64)
structure SetOf (ws : List Nat) (l : List Int) : Prop where
  len : ws.length = 8
  lt : ∀ j, ws.getD j 0 < 18446744073709551616
  mem : ∀ x : Nat, x < 512 → (bit ws x = true ↔ (x : Int) ∈ l)
theorem setOf_nil : SetOf [0, 0, 0, 0, 0, 0, 0, 0] [] := by
  refine ⟨rfl, fun j => ?_, fun x hx => ?_⟩
  · rcases j with _ | _ | _ | _ | _ | _ | _ | _ | j <;> simp
  · have : x / 64 < 8 := by omega
    unfold bit
    generalize x / 64 = q at *
    rcases q with _ | _ | _ | _ | _ | _ | _ | _ | q <;> first | (simp; done) | omega
theorem bit_eq (ws : List Nat) (x : Nat) : (((ws.getD (x / 64) 0) >>> (x % 64) &&& 1 : Nat) : Int) = 1 ↔ bit ws x = true := by
  unfold bit Nat.testBit
  rw [Nat.and_comm]
  simp only [bne_iff_ne, ne_eq]
  have h : 1 &&& (ws.getD (x / 64) 0) >>> (x % 64) < 2 := by rw [Nat.and_comm, Nat.and_one_is_mod]; omega
  omega
theorem setOf_with {ws : List Nat} {l : List Int} (h : SetOf ws l) {x : Nat} (hx : x < 512) : SetOf (ws.set (x / 64) (ws.getD (x / 64) 0 ||| 1 <<< (x % 64))) (l ++ [(x : Int)]) := by
  have h8 : x / 64 < ws.length := by rw [h.len]; omega
  have hp : 1 <<< (x % 64) < 18446744073709551616 := by
    rw [Nat.one_shiftLeft]
    have : 2 ^ (x % 64) < 2 ^ 64 := Nat.pow_lt_pow_right (by omega) (by omega)
    omega
  refine ⟨by simp [h.len], fun j => ?_, fun y hy => ?_⟩
  · simp only [List.getD_eq_getElem?_getD, List.getElem?_set]
    split
    · have h1 := h.lt (x / 64)
      simp only [List.getD_eq_getElem?_getD] at h1
      exact Nat.or_lt_two_pow (n := 64) h1 hp
    · have := h.lt j; simpa [List.getD_eq_getElem?_getD] using this
  · rw [List.mem_append, ← h.mem y hy]
    unfold bit
    simp only [List.getD_eq_getElem?_getD, List.getElem?_set]
    split
    · rename_i e
      rw [e]
      simp only [Option.getD_some, Nat.testBit_or, Nat.one_shiftLeft, Nat.testBit_two_pow, Bool.or_eq_true, decide_eq_true_eq, List.mem_singleton]
      have : (x % 64 = y % 64) ↔ ((y : Int) = x) := by omega
      rw [this]
    · rename_i e
      constructor
      · exact .inl
      · rintro (h | h)
        · exact h
        · simp only [List.mem_singleton] at h; omega

/-- lists that are permutations -/
def Dist (n : Nat) (l : List Int) : Prop := (∀ y ∈ l, 0 ≤ y ∧ y < n) ∧ l.Nodup
def IsPerm (p : List Int) : Prop := 1 ≤ p.length ∧ p.length ≤ 512 ∧ Dist p.length p
instance (n : Nat) (l : List Int) : Decidable (Dist n l) := by unfold Dist; infer_instance
instance (p : List Int) : Decidable (IsPerm p) := by unfold IsPerm; infer_instance
theorem good_nil (n : Nat) : Dist n [] := ⟨by simp, by simp⟩
theorem take_succ_getD {α : Type} (l : List α) (d : α) {k : Nat} (h : k < l.length) : l.take (k + 1) = l.take k ++ [l.getD k d] := by
  rw [List.take_succ_eq_append_getElem h, List.getD_eq_getElem?_getD, List.getElem?_eq_getElem h]; rfl
theorem good_snoc {n : Nat} {l : List Int} {y : Int} : Dist n (l ++ [y]) ↔ Dist n l ∧ 0 ≤ y ∧ y < n ∧ y ∉ l := by
  unfold Dist
  simp only [List.mem_append, List.mem_singleton, List.nodup_append]
  constructor
  · rintro ⟨h1, h2, _, h3⟩
    exact ⟨⟨fun z hz => h1 z (.inl hz), h2⟩, (h1 y (.inr rfl)).1, (h1 y (.inr rfl)).2, fun hy => h3 y hy y rfl rfl⟩
  · rintro ⟨⟨h1, h2⟩, h3, h4, h5⟩
    refine ⟨?_, h2, by simp, fun a ha b hb => ?_⟩
    · rintro z (hz | rfl)
      · exact h1 z hz
      · exact ⟨h3, h4⟩
    · subst hb; exact fun e => h5 (e ▸ ha)
theorem good_take {n : Nat} {l : List Int} (h : Dist n l) (k : Nat) : Dist n (l.take k) :=
  ⟨fun y hy => h.1 y (List.mem_of_mem_take hy), h.2.sublist (List.take_sublist k l)⟩
end Go.PM
namespace Go.PM
theorem take_set_succ {α : Type} {l : List α} {k : Nat} {u : α} (h : k < l.length) : (l.set k u).take (k + 1) = l.take k ++ [u] := by
  rw [List.take_succ_eq_append_getElem (by simpa using h), List.take_set_of_le (Nat.le_refl k)]
  simp
theorem getD_mem {α : Type} {l : List α} {k : Nat} {d : α} (h : k < l.length) : l.getD k d ∈ l := by
  rw [List.getD_eq_getElem?_getD, List.getElem?_eq_getElem h]; exact List.getElem_mem h
theorem IsPerm.lt {p : List Int} (h : IsPerm p) {k : Nat} (hk : k < p.length) : 0 ≤ p.getD k 0 ∧ p.getD k 0 < p.length := h.2.2.1 _ (getD_mem hk)
/-- first p, then q -/
def mulP (p q : List Int) : List Int := p.map fun y => q.getD y.toNat 0
theorem mulP_length (p q : List Int) : (mulP p q).length = p.length := by simp [mulP]
theorem mulP_snoc {p q : List Int} {k : Nat} (h : k < p.length) : mulP (p.take (k + 1)) q = mulP (p.take k) q ++ [q.getD (p.getD k 0).toNat 0] := by
  rw [take_succ_getD p 0 h, mulP, List.map_append]; rfl
end Go.PM
namespace Go.PM
/-! making permutations -/
def idList (n : Nat) : List Int := (List.range n).map fun (k : Nat) => (k : Int)
theorem idList_length (n : Nat) : (idList n).length = n := by simp [idList]
theorem idList_succ (n : Nat) : idList (n + 1) = idList n ++ [(n : Int)] := by simp [idList, List.range_succ]
theorem idList_getD {n k : Nat} (h : k < n) : (idList n).getD k 0 = k := by simp [idList, List.getD_eq_getElem?_getD, h]
theorem nodup_iff {l : List Int} : l.Nodup ↔ ∀ i j, i < j → j < l.length → l.getD i 0 ≠ l.getD j 0 := by
  unfold List.Nodup
  rw [List.pairwise_iff_getElem]
  constructor
  · intro h i j hij hj
    have := h i j (by omega) hj hij
    simpa [List.getD_eq_getElem?_getD, hj, show i < l.length by omega] using this
  · intro h i j hi hj hij
    have := h i j hij hj
    simpa [List.getD_eq_getElem?_getD, hj, hi] using this
theorem mem_iff_getD {l : List Int} {y : Int} : y ∈ l ↔ ∃ k, k < l.length ∧ l.getD k 0 = y := by
  rw [List.mem_iff_getElem]
  constructor
  · rintro ⟨k, hk, rfl⟩; exact ⟨k, hk, by simp [List.getD_eq_getElem?_getD, hk]⟩
  · rintro ⟨k, hk, rfl⟩; exact ⟨k, hk, by simp [List.getD_eq_getElem?_getD, hk]⟩
theorem dist_iff {n : Nat} {l : List Int} : Dist n l ↔ (∀ k, k < l.length → 0 ≤ l.getD k 0 ∧ l.getD k 0 < n) ∧ ∀ i j, i < j → j < l.length → l.getD i 0 ≠ l.getD j 0 := by
  unfold Dist
  rw [nodup_iff]
  constructor
  · rintro ⟨h1, h2⟩; exact ⟨fun k hk => h1 _ (getD_mem hk), h2⟩
  · rintro ⟨h1, h2⟩
    refine ⟨fun y hy => ?_, h2⟩
    obtain ⟨k, hk, rfl⟩ := mem_iff_getD.1 hy
    exact h1 k hk
theorem ext_getD {l l' : List Int} (h : l.length = l'.length) (he : ∀ k, k < l.length → l.getD k 0 = l'.getD k 0) : l = l' := by
  apply List.ext_getElem h
  intro k h1 h2
  have := he k h1
  simpa [List.getD_eq_getElem?_getD, h1, h2] using this
def swapL (l : List Int) (i j : Nat) : List Int := (l.set i (l.getD j 0)).set j (l.getD i 0)
theorem swapL_length (l : List Int) (i j : Nat) : (swapL l i j).length = l.length := by simp [swapL]
theorem swapL_getD {l : List Int} {i j : Nat} (hi : i < l.length) (hj : j < l.length) (k : Nat) : (swapL l i j).getD k 0 = if k = j then l.getD i 0 else if k = i then l.getD j 0 else l.getD k 0 := by
  simp only [swapL, List.getD_eq_getElem?_getD, List.getElem?_set, List.length_set]
  by_cases h1 : k = j
  · subst h1; simp [hj]
  · rw [if_neg (Ne.symm h1), if_neg h1]
    by_cases h2 : k = i
    · subst h2; simp [hi]
    · rw [if_neg (Ne.symm h2), if_neg h2]
theorem swapL_dist {n : Nat} {l : List Int} {i j : Nat} (hi : i < l.length) (hj : j < l.length) (h : Dist n l) : Dist n (swapL l i j) := by
  rw [dist_iff] at *
  simp only [swapL_length, swapL_getD hi hj]
  obtain ⟨h1, h2⟩ := h
  have h2' : ∀ a b, a < l.length → b < l.length → a ≠ b → l.getD a 0 ≠ l.getD b 0 := fun a b ha hb hab => by
    rcases Nat.lt_or_gt_of_ne hab with h | h
    · exact h2 a b h hb
    · exact (h2 b a h ha).symm
  refine ⟨fun k hk => ?_, fun a b hab hb => ?_⟩
  · split
    · exact h1 i hi
    · split
      · exact h1 j hj
      · exact h1 k hk
  · split <;> split <;> (try split) <;> (try split) <;> first | omega | (apply h2' <;> omega)
theorem idList_dist (n : Nat) : Dist n (idList n) := by
  rw [dist_iff]
  simp only [idList_length]
  exact ⟨fun k hk => by rw [idList_getD hk]; omega, fun i j hij hj => by rw [idList_getD hj, idList_getD (by omega)]; omega⟩
/-- where a tape stands behind a Next -/
def tAt (L : List Int) (k : Nat) : Nat := if k < L.length then k + 1 else k
theorem tAt_le {L : List Int} {k : Nat} (h : k ≤ L.length) : tAt L k ≤ L.length := by unfold tAt; split <;> omega
def shuffle (L : List Int) : Nat → Nat → List Int → List Int
  | 0, _, out => out
  | i + 1, k, out => shuffle L i (tAt L k) (swapL out (i + 1) (i + 1 - (L.getD k 0 % 256 % ((i : Int) + 2)).toNat))
def permF (L : List Int) (n : Nat) : List Int := shuffle L (n - 1) 0 (idList n)
theorem shuffle_dist {L : List Int} {n : Nat} : ∀ (i k : Nat) (out : List Int), i < out.length → Dist n out → Dist n (shuffle L i k out) ∧ (shuffle L i k out).length = out.length
  | 0, _, out, _, h => ⟨h, rfl⟩
  | i + 1, k, out, hi, h => by
    have := shuffle_dist (L := L) (n := n) i (tAt L k) (swapL out (i + 1) (i + 1 - (L.getD k 0 % 256 % ((i : Int) + 2)).toNat)) (by rw [swapL_length]; omega) (swapL_dist hi (by omega) h)
    rw [swapL_length] at this
    exact this
theorem permF_length (L : List Int) {n : Nat} (h : 1 ≤ n) : (permF L n).length = n := by
  have := (shuffle_dist (L := L) (n := n) (n - 1) 0 (idList n) (by rw [idList_length]; omega) (idList_dist n)).2
  rw [idList_length] at this; exact this
theorem permF_isPerm (L : List Int) {n : Nat} (h : 1 ≤ n) (h2 : n ≤ 512) : IsPerm (permF L n) := by
  have := (shuffle_dist (L := L) (n := n) (n - 1) 0 (idList n) (by rw [idList_length]; omega) (idList_dist n)).1
  unfold IsPerm
  rw [permF_length L h]
  exact ⟨h, h2, this⟩
end Go.PM

namespace Go.Proofs.YthhfjagnmhhapaaGreat
open Go.W Go.PM

abbrev int8L (xs : List Int) : List Value := xs.map (Value.int .i8)
def I8 (L : List Int) : Prop := L.length ≤ 9223372036854775807 ∧ ∀ x ∈ L, -128 ≤ x ∧ x ≤ 127
theorem I8.getD {L : List Int} (h : I8 L) (k : Nat) : -128 ≤ L.getD k 0 ∧ L.getD k 0 ≤ 127 := by
  by_cases hk : k < L.length
  · exact h.2 _ (getD_mem hk)
  · rw [List.getD_eq_getElem?_getD, List.getElem?_eq_none (by omega)]; simp
abbrev tapeL (la : Option Addr) (n lc k : Nat) : List Value := [.slice la n lc, .int .i64 (k : Int)]

theorem next_spec {L : List Int} {k g lc : Nat} {la : Option Addr} {w : World} (hb : Blk w g 47 (tapeL la L.length lc k)) (hL : Sl w la (int8L L)) (hr : I8 L) (hne : 0 < L.length → ∀ ad, la = some ad → ad.block ≠ g)
    (hk : k ≤ L.length) : CallsR Tryz.prog 37 #[.pointer (some ⟨g, 0, none⟩)] w fun v w' =>
      v = .int .i64 (L.getD k 0) ∧ Chg g w w' ∧ Blk w' g 47 (tapeL la L.length lc (tAt L k)) := by
  have hlen := hr.1
  have hx := hr.getD k
  refine callsR_of (args := [_]) Tryz.func37 rfl rfl ?_
  repeat' (first | (refine k_pure rfl ?_) | (refine then_normal ?_) | (refine cw_seq ?_) | (refine cw_region rfl ?_) | (refine rr_nil ?_))
  refine cw_draw (late := []) (plan := [(0, none), (1, none), (2, none), (3, none), (4, none), (5, none), (6, none), (7, none), (8, none), (9, none)]) (fun w' => Blk w' g 47 (tapeL la L.length lc k)) mixed (by kernel_rfl) hb.drew ?_
  repeat' (first | (refine k_loadC rfl (fun _ h => h) rfl ?_) | (refine k_pure rfl ?_) | (refine then_normal ?_) | (refine cw_seq ?_) | (refine cw_region rfl ?_) | (refine rr_nil ?_) | (refine k_len rfl ?_) | (refine k_fieldAddr rfl ?_) | (refine cw_cond_dec rfl (fun hc => ?_) (fun hc => ?_)) | (refine cw_ret ?_) | (refine then_ret ?_) | (refine cw_skip ?_))
  · refine ret1 rfl (rt rfl) ⟨?_, (Chg.refl g w).drew, ?_⟩
    · rw [List.getD_eq_getElem?_getD, List.getElem?_eq_none (by omega)]; rfl
    · rw [tAt, if_neg (by omega)]; exact hb.drew
  · replace hb := hb.drew
    repeat' (first | (refine k_loadC rfl hb rfl ?_) | (refine k_storeC rfl rfl rfl hb rfl (fun w2 hc2 hb2 => ⟨fun _ _ => trivial, ?_⟩)) | (refine k_pure rfl ?_) | (refine then_normal ?_) | (refine cw_seq ?_) | (refine rr_nil ?_) | (refine k_addI rfl rfl (by omega) (by omega) ?_) | (refine k_fieldAddr rfl ?_))
    have hc2' := (Chg.trans (Chg.drew (Chg.refl g w)) hc2)
    have hL2 := (hL.drew).chg hc2 (hne (by omega))
    refine cw_draw (late := []) (plan := [(0, none), (1, none), (2, none), (3, none), (4, none), (5, none), (6, none), (7, none), (8, none), (9, none), (10, none), (11, none), (12, none)]) (fun w' => Blk w' g 47 [.slice la L.length lc, .int .i64 ((k : Int) + 1)] ∧ Sl w' la (int8L L)) mixed (by kernel_rfl) ⟨hb2.drew, hL2.drew⟩ ?_
    repeat' (first | (refine k_loadC rfl (fun _ h => h.1) rfl ?_) | (refine k_indexN (j := k) rfl (by show Value.int .i64 ((k : Int) + 1 - 1) = _; rw [Int.add_sub_cancel]) (hL.plain (by simp; omega)) (by omega) ?_) | (refine k_loadI rfl (fun _ h => h.2) (by omega) ?_) | (refine k_convI rfl (wrap_i64 (by omega) (by omega)) ?_) | (refine k_pure rfl ?_) | (refine then_normal ?_) | (refine rr_nil ?_) | (refine k_subI rfl rfl (by omega) (by omega) ?_) | (refine k_fieldAddr rfl ?_) | (refine cw_ret ?_))
    refine ret1 rfl (rt rfl) ⟨rfl, hc2'.drew, ?_⟩
    rw [tAt, if_pos (by omega)]
    exact hb2.drew

theorem below_spec {L : List Int} {k g lc : Nat} {la : Option Addr} {w : World} (hb : Blk w g 47 (tapeL la L.length lc k)) (hL : Sl w la (int8L L)) (hr : I8 L) (hne : 0 < L.length → ∀ ad, la = some ad → ad.block ≠ g)
    (hk : k ≤ L.length) (n : Int) (hn : 0 < n) : CallsR Tryz.prog 15 #[.pointer (some ⟨g, 0, none⟩), .int .i64 n] w fun v w' =>
      v = .int .i64 (L.getD k 0 % 256 % n) ∧ Chg g w w' ∧ Blk w' g 47 (tapeL la L.length lc (tAt L k)) := by
  have hx := hr.getD k
  refine callsR_of (args := [_, _]) Tryz.func15 rfl rfl ?_
  repeat' (first | (refine k_pure rfl ?_) | (refine then_normal ?_) | (refine cw_seq ?_) | (refine cw_region rfl ?_) | (refine rr_nil ?_))
  refine k_call (next_spec hb hL hr hne hk) rfl ?_
  rintro v w1 ⟨rfl, hc1, hb1⟩
  refine ⟨fun _ _ => trivial, ?_⟩
  refine k_conv rfl ?_
  rw [show IntKind.u8.wrap (L.getD k 0) = L.getD k 0 % 256 from wrap_uns rfl]
  repeat' (first | (refine k_convI rfl (wrap_i64 (by omega) (by omega)) ?_) | (refine k_rem rfl rfl (by omega) (by omega) ?_) | (refine k_pure rfl ?_) | (refine then_normal ?_) | (refine rr_nil ?_) | (refine cw_ret ?_))
  exact ret1 rfl (rt rfl) ⟨rfl, hc1, hb1⟩
end Go.Proofs.YthhfjagnmhhapaaGreat

namespace Go.Proofs.YthhfjagnmhhapaaGreat
open Go.W Go.PM
abbrev intsL (xs : List Int) : List Value := xs.map (Value.int .i64)

theorem perm_spec {L : List Int} {la : Option Addr} {w : World} (hL : Sl w la (int8L L)) (hr : I8 L) (lc n : Nat) (h1 : 1 ≤ n) (h2 : n ≤ 512) :
    CallsR Tryz.prog 14 #[.slice la L.length lc, .int .i64 (n : Int)] w fun v w' =>
      ∃ b c, v = .slice b (permF L n).length c ∧ Own w' w.heap.size 3 1 b (permF L n).length c (intsL (permF L n)) ∧ Ex w w' := by
  have hlt : 0 < L.length → ∀ ad, la = some ad → ad.block < w.heap.size := fun h ad e => hL.lt (by simpa using h) ad e
  refine callsR_of (args := [_, _]) Tryz.func14 rfl rfl ?_
  repeat' (first | (refine k_build (cs := tapeL la L.length lc 0) rfl ?_) | (refine k_boxA rfl (fun g w1 hn => ⟨fun _ _ => trivial, ?_⟩)) | (refine k_pure rfl ?_) | (refine then_normal ?_) | (refine cw_seq ?_) | (refine cw_region rfl ?_) | (refine rr_nil ?_) | (refine cw_block ?_))
  have hg := hn.lo
  have hne : 0 < L.length → ∀ ad, la = some ad → ad.block ≠ g := fun h ad e => by have := hlt h ad e; omega
  refine cw_loop (ι := Nat × Option Addr × Nat) [6, 7, 13, 14, 15, 16, 17, 18, 19, 20, 21] (fun s => [(7, .int .i64 (s.1 : Int)), (6, .slice s.2.1 s.1 s.2.2)])
    (fun s w' => s.1 ≤ n ∧ Ex w w' ∧ Ex w1 w' ∧ Own w' w1.heap.size 3 1 s.2.1 s.1 s.2.2 (intsL (idList s.1))) (fun s => n - s.1)
    (0, none, 0) ⟨rfl, rfl, trivial⟩ ⟨by simp, hn.ex, Ex.refl _, Own.nil _ _ _ _⟩ ?_
  rintro ⟨k, b, c⟩ ξ w2 ⟨hk, hE, hE1, hO⟩
  simp only at hk hO
  show CW _ _ _ _ (over [(7, .int .i64 (k : Int)), (6, .slice b k c)] _) w2
  repeat' (first | (refine k_pure rfl ?_) | (refine then_normal ?_) | (refine cw_seq ?_) | (refine cw_region rfl ?_) | (refine rr_nil ?_) | (refine k_subI rfl rfl (by omega) (by omega) ?_) | (refine cw_cond_dec rfl (fun hc => ?_) (fun hc => ?_)) | (refine cw_block ?_) | (refine cw_exit ?_) | (refine then_exit ?_) | (refine in_exit ?_) | (refine cw_skip ?_))
  · refine k_app1I rfl rfl rfl rfl hO (by omega) (by omega) hE1.size (fun g b' c' w3 hO3 hG3 _ => ?_)
    repeat' (first | (refine k_pure rfl ?_) | (refine then_normal ?_) | (refine cw_region rfl ?_) | (refine rr_nil ?_) | (refine k_addI rfl rfl (by omega) (by omega) ?_) | (refine in_normal ?_))
    refine ⟨⟨(k + 1, b', c'), ⟨by simp only; omega, hO.grow_ex hG3 hE hn.ex.size, hO.grow_ex hG3 hE1 (Nat.le_refl _), by simp only [idList_succ]; exact hO3⟩, by simp only; omega, rfl, rfl, trivial⟩, (by (repeat (first | exact agree_mask _ _ _ | refine agree_upd rfl ?_ | refine agree_updO rfl ?_ | refine agree_overIn rfl ?_ | refine agree_maskIn rfl ?_)))⟩
  · obtain rfl : k = n := by omega
    have hbt := hn.blk.ext hE1
    refine cw_loop (ι := Nat × Nat × List Int) [8, 9, 24, 25, 26, 27, 28, 29, 30, 31, 32, 33, 34, 35, 36, 37, 38, 39, 40, 41, 42, 43, 44, 45, 46, 47] (fun s => [(8, .int .i64 (s.1 : Int))])
      (fun s w' => s.1 < k ∧ Ex w w' ∧ Blk w' g 47 (tapeL la L.length lc s.2.1) ∧ s.2.1 ≤ L.length ∧ Own w' w1.heap.size 3 1 b k c (intsL s.2.2) ∧ s.2.2.length = k ∧ shuffle L s.1 s.2.1 s.2.2 = permF L k) (fun s => s.1)
      (k - 1, 0, idList k) ⟨by show Value.int .i64 ((k : Int) - 1) = _; congr 1; simp only; omega, trivial⟩ ⟨by simp only; omega, hE, hbt, by simp, hO, by simp [idList_length], rfl⟩ ?_
    rintro ⟨i, m, out⟩ ξ2 w3 ⟨hi, hE3, hb3, hm, hO3, hol, hsh⟩
    simp only at hi hb3 hm hO3 hol hsh
    show CW _ _ _ _ (over [(8, .int .i64 (i : Int))] _) w3
    repeat' (first | (refine k_pure rfl ?_) | (refine then_normal ?_) | (refine cw_seq ?_) | (refine cw_region rfl ?_) | (refine rr_nil ?_) | (refine k_addI rfl rfl (by omega) (by omega) ?_) | (refine cw_cond_dec rfl (fun hc => ?_) (fun hc => ?_)) | (refine cw_block ?_) | (refine cw_exit ?_) | (refine then_exit ?_) | (refine in_exit ?_) | (refine cw_ret ?_) | (refine cw_skip ?_))
    · obtain ⟨i, rfl⟩ : ∃ i', i = i' + 1 := ⟨i - 1, by omega⟩
      refine k_call (below_spec hb3 (hL.ext hE3) hr hne hm _ (by omega)) rfl ?_
      rintro v w4 ⟨rfl, hc4, hb4⟩
      refine ⟨fun _ _ => trivial, ?_⟩
      have hO4 := hO3.chg hc4 (fun ad e => by have := (hO3.lo ad e).1; have := hn.hi; omega)
      have hE4 := hE3.chg hc4 hg
      have hmod : 0 ≤ L.getD m 0 % 256 % ((i : Int) + 2) ∧ L.getD m 0 % 256 % ((i : Int) + 2) < (i : Int) + 2 := ⟨Int.emod_nonneg _ (by omega), Int.emod_lt_of_pos _ (by omega)⟩
      rw [show ((i + 1 : Nat) : Int) + 1 = (i : Int) + 2 by omega]
      obtain ⟨x, hx⟩ : ∃ x : Nat, L.getD m 0 % 256 % ((i : Int) + 2) = x := ⟨_, (Int.toNat_of_nonneg hmod.1).symm⟩
      have hsh' : shuffle L i (tAt L m) (swapL out (i + 1) (i + 1 - x)) = permF L k := by rw [← hsh, shuffle, hx, Int.toNat_natCast]
      rw [hx] at hmod ⊢
      refine k_subI rfl rfl (by omega) (by omega) ?_
      obtain ⟨j, hj⟩ : ∃ j, j = i + 1 - x := ⟨_, rfl⟩
      rw [show ((i + 1 : Nat) : Int) - (x : Int) = (j : Int) by omega]
      rw [← hj] at hsh'
      repeat' (first | (refine k_pure rfl ?_) | (refine then_normal ?_) | (refine rr_nil ?_))
      have hpl := hO4.sl.plain (by simp; omega)
      refine cw_draw (late := [13, 15]) (plan := [(0, none), (1, none), (2, none), (3, none), (4, none), (5, none), (6, none), (7, none), (8, none), (9, none), (10, none), (11, none), (12, none), (13, some false), (14, none), (15, some false)]) (fun w' => Own w' w1.heap.size 3 1 b k c (intsL out)) mixed (by kernel_rfl) hO4.drew ?_
      repeat' (first | (refine k_indexN rfl rfl hpl (by omega) ?_) | (refine k_loadI rfl (fun _ h => h.sl) (by omega) ?_) | (refine k_pure rfl ?_))
      refine k_storeOwn rfl rfl rfl hO4.drew (by simp; omega) (fun gb w5 hgb hlo5 hc5 hO5 => ⟨fun h => absurd h (by decide), ?_⟩)
      replace hO5 := hO5.setI
      repeat' (first | (refine k_indexN rfl rfl hpl (by omega) ?_))
      refine k_storeOwn rfl rfl rfl hO5 (by simp; omega) (fun gb2 w6 hgb2 hlo6 hc6 hO6 => ⟨fun h => absurd h (by decide), ?_⟩)
      replace hO6 := hO6.setI
      obtain rfl : gb = gb2 := by rw [hgb] at hgb2; simpa using hgb2
      have hng : g ≠ gb := by have := hn.hi; omega
      repeat' (first | (refine k_pure rfl ?_) | (refine then_normal ?_) | (refine cw_region rfl ?_) | (refine rr_nil ?_) | (refine k_subI rfl rfl (by omega) (by omega) ?_) | (refine in_normal ?_))
      refine ⟨⟨(i, tAt L m, swapL out (i + 1) j), ⟨by simp only; omega, (hE4.drew.chg hc5 (by have := hn.ex.size; omega)).chg hc6 (by have := hn.ex.size; omega), ((hb4.drew).chg hc5 hng).chg hc6 hng, tAt_le hm, hO6, by simp only [swapL_length, hol], hsh'⟩, by simp only; omega, ?_, trivial⟩, (by (repeat (first | exact agree_mask _ _ _ | refine agree_upd rfl ?_ | refine agree_updO rfl ?_ | refine agree_overIn rfl ?_ | refine agree_maskIn rfl ?_)))⟩
      show Value.int .i64 (((i + 1 : Nat) : Int) - 1) = _
      congr 1; simp only; omega
    · obtain rfl : i = 0 := by omega
      refine ret1 rfl (rt rfl) ⟨b, c, ?_, ?_, hE3⟩
      · rw [permF_length L h1]; rfl
      · rw [permF_length L h1, ← hsh]; exact hO3.mono hn.ex.size
end Go.Proofs.YthhfjagnmhhapaaGreat

namespace Go.Proofs.YthhfjagnmhhapaaGreat
open Go.W Go.PM

abbrev wordsL (ws : List Nat) : List Value := ws.map fun (n : Nat) => Value.int .u64 n
-- abbrev intsL (xs : List Int) : List Value := xs.map (Value.int .i64)

theorem has_nat {ws : List Nat} {l : List Int} (hs : SetOf ws l) (x : Nat) (h1 : x < 512) (w : World) :
    CallsR Tryz.prog 87 #[.agg (wordsL ws).toArray, .int .i64 (x : Int)] w fun v w' => v = .bool (decide ((x : Int) ∈ l)) ∧ Ex w w' := by
  have hl := hs.len
  have hw := hs.lt
  refine callsR_of (args := [_, _]) Tryz.func87 rfl rfl ?_
  repeat' (first | (refine k_boxA rfl (fun g w' hn => ⟨fun _ _ => trivial, ?_⟩)) | (refine k_pure rfl ?_) | (refine then_normal ?_) | (refine cw_seq ?_) | (refine cw_region rfl ?_) | (refine rr_nil ?_))
  refine k_quoI rfl rfl (by omega) (by omega) (by omega) ?_
  refine k_indexA1 (j := x / 64) rfl rfl (by omega) ?_
  refine k_loadN rfl hn.blk.sl (by omega) ?_
  repeat' (first | (refine k_pure rfl ?_))
  refine k_rem rfl rfl (by omega) (by omega) ?_
  refine k_shrN (j := x % 64) rfl rfl (.inr (by simp only [IntKind.bits]; omega)) ?_
  refine k_andN (m' := 1) rfl rfl rfl (by have := hw (x / 64); have h2 := Nat.shiftRight_le (ws.getD (x/64) 0) (x % 64); simp only [IntKind.bits]; omega) (by decide) ?_
  repeat' (first | (refine k_pure rfl ?_) | (refine then_normal ?_) | (refine rr_nil ?_) | (refine cw_ret ?_))
  refine ret1 rfl (rt rfl) ?_
  refine ⟨?_, hn.ex⟩
  exact congrArg Value.bool (decide_eq_decide.2 ((bit_eq ws x).trans (hs.mem x h1)))

theorem with_nat {ws : List Nat} {l : List Int} (hs : SetOf ws l) (x : Nat) (h1 : x < 512) (w : World) :
    CallsR Tryz.prog 88 #[.agg (wordsL ws).toArray, .int .i64 (x : Int)] w fun v w' => ∃ ws', v = .agg (wordsL ws').toArray ∧ SetOf ws' (l ++ [(x : Int)]) ∧ Ex w w' := by
  have hl := hs.len
  have hw := hs.lt
  refine callsR_of (args := [_, _]) Tryz.func88 rfl rfl ?_
  repeat' (first | (refine k_boxA rfl (fun g w' hn => ⟨fun _ _ => trivial, ?_⟩)) | (refine k_alloc (fun g2 w2 hn2 => ⟨fun _ _ => trivial, ?_⟩)) | (refine then_normal ?_) | (refine cw_seq ?_) | (refine cw_region rfl ?_) | (refine rr_nil ?_))
  have hb := hn.blk.ext hn2.ex
  refine cw_draw (late := [9]) (plan := [(0, none), (1, none), (2, none), (3, none), (4, none), (5, none), (6, none), (7, none), (8, none), (9, some false)]) (fun w' => Blk w' g 133 (wordsL ws)) mixed (by kernel_rfl) hb ?_
  repeat' (first | (refine k_quoI rfl rfl (by omega) (by omega) (by omega) ?_) | (refine k_indexA1 (j := x / 64) rfl rfl (by omega) ?_) | (refine k_loadN rfl (fun w' hw' => hw'.sl) (by omega) ?_) | (refine k_rem rfl rfl (by omega) (by omega) ?_) | (refine k_pure rfl ?_))
  refine k_shlN (m := 1) (j := x % 64) rfl rfl rfl (by simp only [IntKind.bits]; omega) ?_
  have hp : 1 <<< (x % 64) < 18446744073709551616 := by
    rw [Nat.one_shiftLeft]
    have : 2 ^ (x % 64) < 2 ^ 64 := Nat.pow_lt_pow_right (by omega) (by omega)
    omega
  rw [show (1 <<< (x % 64)) % 2 ^ IntKind.u64.bits = 1 <<< (x % 64) from Nat.mod_eq_of_lt hp]
  refine k_orN rfl rfl rfl (hw _) hp ?_
  refine k_indexA1 (j := x / 64) rfl rfl (by omega) ?_
  refine k_storeN rfl rfl hb.drew (by omega) (fun w3 hc hb3 => ⟨fun h => absurd h (by decide), ?_⟩)
  repeat' (first | (refine then_normal ?_) | (refine cw_seq ?_) | (refine cw_region rfl ?_) | (refine rr_nil ?_))
  refine k_loadA (vs := wordsL (ws.set (x / 64) (ws.getD (x / 64) 0 ||| 1 <<< (x % 64)))) rfl (by simp [hl]) (fun j hj => by have := hb3.cell hj; simpa using this) ?_
  have hb2 : Blk w3 g2 133 (wordsL [0, 0, 0, 0, 0, 0, 0, 0]) := (hn2.blk.drew).chg hc (by have := hn.hi; have := hn2.lo; omega)
  refine k_storeV (n := 8) rfl rfl (by simp [hl]) (all_one (fun _ => rfl) _) hb2 rfl (fun w4 hc4 hb4 => ⟨fun h => absurd h (by decide), ?_⟩)
  repeat' (first | (refine then_normal ?_) | (refine rr_nil ?_) | (refine cw_ret ?_))
  refine ret1 rfl (rc rfl (by simp [hl]) hb4) ?_
  exact ⟨_, rfl, setOf_with hs h1, ((hn.ex.trans hn2.ex).drew.chg hc hn.lo).chg hc4 (by have := hn.ex.size; have := hn2.lo; omega)⟩

theorem has_spec {ws : List Nat} {l : List Int} (hs : SetOf ws l) (x : Int) (h0 : 0 ≤ x) (h1 : x < 512) (w : World) :
    CallsR Tryz.prog 87 #[.agg (wordsL ws).toArray, .int .i64 x] w fun v w' => v = .bool (decide (x ∈ l)) ∧ Ex w w' := by
  obtain ⟨n, rfl⟩ := Int.eq_ofNat_of_zero_le h0
  exact has_nat hs n (by omega) w
theorem with_spec {ws : List Nat} {l : List Int} (hs : SetOf ws l) (x : Int) (h0 : 0 ≤ x) (h1 : x < 512) (w : World) :
    CallsR Tryz.prog 88 #[.agg (wordsL ws).toArray, .int .i64 x] w fun v w' => ∃ ws', v = .agg (wordsL ws').toArray ∧ SetOf ws' (l ++ [x]) ∧ Ex w w' := by
  obtain ⟨n, rfl⟩ := Int.eq_ofNat_of_zero_le h0
  exact with_nat hs n (by omega) w
end Go.Proofs.YthhfjagnmhhapaaGreat

namespace Go.Proofs.YthhfjagnmhhapaaGreat
open Go.W Go.PM

theorem isPerm_of_good {xs : List Int} (h1 : 1 ≤ xs.length) (h2 : xs.length ≤ 512) (h : Dist xs.length xs) : decide (IsPerm xs) = true := by
  simp [IsPerm, h1, h2, h]
theorem not_isPerm {xs : List Int} {k : Nat} (hk : k < xs.length) (h : ¬ (0 ≤ xs.getD k 0 ∧ xs.getD k 0 < xs.length ∧ xs.getD k 0 ∉ xs.take k)) : decide (IsPerm xs) = false := by
  rw [decide_eq_false_iff_not]
  rintro ⟨_, _, hG⟩
  have := good_take hG (k + 1)
  rw [take_succ_getD xs 0 hk, good_snoc] at this
  exact h this.2

theorem valid_spec {xs : List Int} {a : Option Addr} {w : World} (hx : Sl w a (intsL xs)) (cap : Nat) :
    CallsR Tryz.prog 64 #[.slice a xs.length cap] w fun v w' => v = .bool (decide (IsPerm xs)) ∧ Ex w w' := by
  refine callsR_of (args := [_]) Tryz.func64 rfl rfl ?_
  repeat' (first | (refine k_alloc (fun g w1 hn => ⟨fun _ _ => trivial, ?_⟩)) | (refine k_pure rfl ?_) | (refine then_normal ?_) | (refine cw_seq ?_) | (refine cw_region rfl ?_) | (refine rr_nil ?_) | (refine k_len rfl ?_) | (refine g_run rfl rfl ?_) | (refine g_skip rfl rfl ?_) | (refine g_dec_f rfl rfl (fun hc => ?_) (fun hc => ?_)) | (refine cw_cond_true rfl ?_) | (refine cw_cond_dec rfl (fun hc => ?_) (fun hc => ?_)) | (refine cw_block ?_) | (refine cw_ret ?_) | (refine then_ret ?_) | (refine cw_skip ?_))
  · refine ret1 rfl (rt rfl) ⟨congrArg Value.bool (Eq.symm (decide_eq_false ?_)), Ex.refl _⟩
    rintro ⟨h1, h2, _⟩; omega
  · refine cw_loop (ι := Nat × List Nat) [2, 5, 16, 17, 18, 19, 20, 21, 22, 23, 24, 25, 26, 27, 28, 29, 30, 31, 32, 33, 34, 35, 36] (fun s => [(16, .int .i64 (s.1 : Int))])
      (fun s w' => s.1 ≤ xs.length ∧ Ex w w' ∧ Blk w' g 133 (wordsL s.2) ∧ SetOf s.2 (xs.take s.1) ∧ Dist xs.length (xs.take s.1)) (fun s => xs.length - s.1)
      (0, [0, 0, 0, 0, 0, 0, 0, 0]) ⟨rfl, trivial⟩ ⟨by omega, hn.ex, hn.blk, setOf_nil, good_nil _⟩ ?_
    rintro ⟨k, ws⟩ ξ w2 ⟨hk, hE, hb, hS, hG⟩
    simp only at hk hb hS hG
    show CW _ _ _ _ (over [(16, .int .i64 (k : Int))] _) w2
    repeat' (first | (refine k_indexN rfl rfl (hx.plain (by simp; omega)) (by omega) ?_) | (refine k_loadI rfl (hx.ext hE) (by omega) ?_) | (refine k_loadA (vs := wordsL ws) rfl (by simp [hS.len]) (fun j hj => by have := hb.cell hj; simpa using this) ?_) | (refine k_pure rfl ?_) | (refine then_normal ?_) | (refine cw_seq ?_) | (refine cw_region rfl ?_) | (refine rr_nil ?_) | (refine k_len rfl ?_) | (refine g_run rfl rfl ?_) | (refine g_skip rfl rfl ?_) | (refine g_dec_f rfl rfl (fun hc => ?_) (fun hc => ?_)) | (refine cw_cond_true rfl ?_) | (refine cw_cond_dec rfl (fun hc => ?_) (fun hc => ?_)) | (refine cw_block ?_) | (refine cw_exit ?_) | (refine then_exit ?_) | (refine in_exit ?_) | (refine cw_ret ?_) | (refine then_ret ?_) | (refine in_ret ?_) | (refine cw_skip ?_))
    · refine k_call (has_spec hS _ (by omega) (by omega) _) rfl ?_
      rintro v w3 ⟨rfl, hE3⟩
      refine ⟨fun _ _ => trivial, ?_⟩
      replace hb := hb.ext hE3
      replace hE := hE.trans hE3
      repeat' (first | (refine k_loadA (vs := wordsL ws) rfl (by simp [hS.len]) (fun j hj => by have := hb.cell hj; simpa using this) ?_) | (refine k_pure rfl ?_) | (refine then_normal ?_) | (refine cw_seq ?_) | (refine cw_region rfl ?_) | (refine rr_nil ?_) | (refine cw_cond_dec rfl (fun hc => ?_) (fun hc => ?_)) | (refine cw_ret ?_) | (refine then_ret ?_) | (refine in_ret ?_) | (refine cw_skip ?_))
      · refine ret1 rfl (rt rfl) ⟨congrArg Value.bool (Eq.symm (not_isPerm (k := k) (by omega) ?_)), hE⟩
        exact fun h => h.2.2 hc
      · refine k_call (with_spec hS _ (by omega) (by omega) _) rfl ?_
        rintro v w4 ⟨ws', rfl, hS', hE4⟩
        refine ⟨fun _ _ => trivial, ?_⟩
        replace hb := hb.ext hE4
        replace hE := hE.trans hE4
        refine k_storeV (n := 8) rfl rfl (by simp [hS'.len]) (all_one (fun _ => rfl) _) hb (by simp [hS.len]) (fun w5 hc5 hb5 => ⟨fun _ _ => trivial, ?_⟩)
        replace hE := hE.chg hc5 hn.lo
        repeat' (first | (refine k_pure rfl ?_) | (refine then_normal ?_) | (refine cw_region rfl ?_) | (refine rr_nil ?_) | (refine k_addI rfl rfl (by omega) (by omega) ?_) | (refine in_normal ?_))
        rw [← take_succ_getD xs 0 (by omega)] at hS'
        refine ⟨⟨(k + 1, ws'), ⟨by simp only; omega, hE, hb5, hS', ?_⟩, by simp only; omega, rfl, trivial⟩, ?_⟩
        · simp only
          rw [take_succ_getD xs 0 (by omega), good_snoc]
          exact ⟨hG, by omega, by omega, hc⟩
        · (repeat (first | exact agree_mask _ _ _ | refine agree_upd rfl ?_ | refine agree_updO rfl ?_ | refine agree_overIn rfl ?_ | refine agree_maskIn rfl ?_))
    · refine ret1 rfl (rt rfl) ⟨congrArg Value.bool (Eq.symm (not_isPerm (k := k) (by omega) ?_)), hE⟩
      omega
    · refine ret1 rfl (rt rfl) ⟨congrArg Value.bool (Eq.symm (not_isPerm (k := k) (by omega) ?_)), hE⟩
      omega
    · refine ret1 rfl (rt rfl) ⟨congrArg Value.bool (Eq.symm (isPerm_of_good (by omega) (by omega) ?_)), hE⟩
      rw [List.take_of_length_le (by omega)] at hG
      exact hG
  · refine ret1 rfl (rt rfl) ⟨congrArg Value.bool (Eq.symm (decide_eq_false ?_)), Ex.refl _⟩
    rintro ⟨h1, h2, _⟩; omega
end Go.Proofs.YthhfjagnmhhapaaGreat

namespace Go.Proofs.YthhfjagnmhhapaaGreat
open Go.W Go.PM

theorem same_spec {xs ys : List Int} {a a' : Option Addr} {w : World} (hx : Sl w a (intsL xs)) (hy : Sl w a' (intsL ys)) (cap cap' : Nat) (hlx : xs.length ≤ 9223372036854775807) :
    CallsR Tryz.prog 34 #[.slice a xs.length cap, .slice a' ys.length cap'] w fun v w' => v = .bool (decide (xs = ys)) ∧ Ex w w' := by
  refine callsR_of (args := [_, _]) Tryz.func34 rfl rfl ?_
  repeat' (first | (refine k_pure rfl ?_) | (refine then_normal ?_) | (refine cw_seq ?_) | (refine cw_region rfl ?_) | (refine rr_nil ?_) | (refine k_len rfl ?_) | (refine cw_cond_dec rfl (fun hc => ?_) (fun hc => ?_)) | (refine cw_block ?_) | (refine cw_ret ?_) | (refine then_ret ?_) | (refine cw_skip ?_))
  · refine ret1 rfl (rt rfl) ⟨congrArg Value.bool (Eq.symm (decide_eq_false ?_)), Ex.refl _⟩
    rintro rfl; exact hc rfl
  · have hl : xs.length = ys.length := by omega
    refine cw_loop (ι := Nat) [4, 5, 13, 14, 15, 16, 17, 18, 19, 20, 21, 22, 23, 24, 25] (fun k => [(13, .int .i64 (k : Int))])
      (fun k w' => k ≤ xs.length ∧ Ex w w' ∧ xs.take k = ys.take k) (fun k => xs.length - k) 0 ⟨rfl, trivial⟩ ⟨by omega, Ex.refl _, rfl⟩ ?_
    rintro k ξ w2 ⟨hk, hE, hT⟩
    repeat' (first | (refine k_pure rfl ?_) | (refine then_normal ?_) | (refine cw_seq ?_) | (refine cw_region rfl ?_) | (refine rr_nil ?_) | (refine cw_cond_dec rfl (fun hc => ?_) (fun hc => ?_)) | (refine cw_block ?_) | (refine cw_exit ?_) | (refine then_exit ?_) | (refine in_exit ?_) | (refine cw_ret ?_) | (refine cw_skip ?_))
    · refine cw_draw (late := []) (plan := [(0, none), (1, none), (2, none), (3, none), (4, none), (5, none), (6, none), (7, none), (8, none)]) (fun w' => Ex w w') mixed (by kernel_rfl) hE.drew ?_
      repeat' (first | (refine k_indexN rfl rfl (hx.plain (by simp; omega)) (by omega) ?_) | (refine k_indexN rfl rfl (hy.plain (by simp; omega)) (by omega) ?_) | (refine k_loadI rfl (fun _ h => hx.ext h) (by omega) ?_) | (refine k_loadI rfl (fun _ h => hy.ext h) (by omega) ?_) | (refine k_pure rfl ?_) | (refine then_normal ?_) | (refine cw_seq ?_) | (refine cw_region rfl ?_) | (refine rr_nil ?_) | (refine k_addI rfl rfl (by omega) (by omega) ?_) | (refine cw_cond_dec rfl (fun hc => ?_) (fun hc => ?_)) | (refine in_normal ?_) | (refine cw_ret ?_) | (refine then_ret ?_) | (refine in_ret ?_) | (refine cw_skip ?_))
      · refine ret1 rfl (rt rfl) ⟨congrArg Value.bool (Eq.symm (decide_eq_false ?_)), hE.drew⟩
        rintro rfl; exact hc rfl
      · refine ⟨⟨k + 1, ⟨by omega, hE.drew, ?_⟩, by omega, rfl, trivial⟩, (by (repeat (first | exact agree_mask _ _ _ | refine agree_upd rfl ?_ | refine agree_updO rfl ?_ | refine agree_overIn rfl ?_ | refine agree_maskIn rfl ?_)))⟩
        rw [take_succ_getD xs 0 (by omega), take_succ_getD ys 0 (by omega), hT, Decidable.not_not.1 hc]
    · refine ret1 rfl (rt rfl) ⟨congrArg Value.bool (Eq.symm (decide_eq_true ?_)), hE⟩
      rwa [List.take_of_length_le (by omega), List.take_of_length_le (by omega)] at hT

theorem sameLists_spec {xs ys : List (List Int)} {a a' : Option Addr} {sx sy : List SD} {w : World} (hx : Lists w .i64 a sx xs) (hy : Lists w .i64 a' sy ys) (cap cap' : Nat) (hlx : xs.length ≤ 9223372036854775807)
    (hle : ∀ i, (xs.getD i []).length ≤ 9223372036854775807) :
    CallsR Tryz.prog 13 #[.slice a xs.length cap, .slice a' ys.length cap'] w fun v w' => v = .bool (decide (xs = ys)) ∧ Ex w w' := by
  have hlx' := hx.len
  have hly' := hy.len
  refine callsR_of (args := [_, _]) Tryz.func13 rfl rfl ?_
  repeat' (first | (refine k_pure rfl ?_) | (refine then_normal ?_) | (refine cw_seq ?_) | (refine cw_region rfl ?_) | (refine rr_nil ?_) | (refine k_len rfl ?_) | (refine cw_cond_dec rfl (fun hc => ?_) (fun hc => ?_)) | (refine cw_block ?_) | (refine cw_ret ?_) | (refine then_ret ?_) | (refine cw_skip ?_))
  · refine ret1 rfl (rt rfl) ⟨congrArg Value.bool (Eq.symm (decide_eq_false ?_)), Ex.refl _⟩
    rintro rfl; exact hc rfl
  · have hl : xs.length = ys.length := by omega
    refine cw_loop (ι := Nat) [4, 5, 13, 14, 15, 16, 17, 18, 19, 20, 21, 22, 23, 24, 25, 26] (fun k => [(13, .int .i64 (k : Int))])
      (fun k w' => k ≤ xs.length ∧ Ex w w' ∧ xs.take k = ys.take k) (fun k => xs.length - k) 0 ⟨rfl, trivial⟩ ⟨by omega, Ex.refl _, rfl⟩ ?_
    rintro k ξ w2 ⟨hk, hE, hT⟩
    repeat' (first | (refine k_pure rfl ?_) | (refine then_normal ?_) | (refine cw_seq ?_) | (refine cw_region rfl ?_) | (refine rr_nil ?_) | (refine cw_cond_dec rfl (fun hc => ?_) (fun hc => ?_)) | (refine cw_block ?_) | (refine cw_exit ?_) | (refine then_exit ?_) | (refine in_exit ?_) | (refine cw_ret ?_) | (refine cw_skip ?_))
    · refine cw_draw (late := [8]) (plan := [(0, none), (1, none), (2, none), (3, none), (4, none), (5, none), (6, none), (7, none), (8, some false), (9, none)]) (fun w' => Ex w w') mixed (by kernel_rfl) hE.drew ?_
      repeat' (first | (refine k_indexN rfl rfl (hx.sl.plain (by simp; omega)) (by omega) ?_) | (refine k_indexN rfl rfl (hy.sl.plain (by simp; omega)) (by omega) ?_) | (refine k_loadS rfl (fun _ h => hx.sl.ext h) (by omega) ?_) | (refine k_loadS rfl (fun _ h => hy.sl.ext h) (by omega) ?_) | (refine k_pure rfl ?_))
      obtain ⟨h1, h2⟩ := hx.each k (by omega)
      obtain ⟨h3, h4⟩ := hy.each k (by omega)
      rw [h2, h4]
      refine k_call (same_spec (h1.ext hE.drew) (h3.ext hE.drew) _ _ (hle k)) rfl ?_
      rintro v w3 ⟨rfl, hE3⟩
      refine ⟨fun _ h => h.trans hE3, ?_⟩
      replace hE3 := hE.drew.trans hE3
      repeat' (first | (refine k_pure rfl ?_) | (refine then_normal ?_) | (refine cw_seq ?_) | (refine cw_region rfl ?_) | (refine rr_nil ?_) | (refine k_addI rfl rfl (by omega) (by omega) ?_) | (refine cw_cond_ndec rfl (fun hc => ?_) (fun hc => ?_)) | (refine in_normal ?_) | (refine cw_ret ?_) | (refine then_ret ?_) | (refine in_ret ?_) | (refine cw_skip ?_))
      · refine ret1 rfl (rt rfl) ⟨congrArg Value.bool (Eq.symm (decide_eq_false ?_)), hE3⟩
        rintro rfl; exact hc rfl
      · refine ⟨⟨k + 1, ⟨by omega, hE3, ?_⟩, by omega, rfl, trivial⟩, (by (repeat (first | exact agree_mask _ _ _ | refine agree_upd rfl ?_ | refine agree_updO rfl ?_ | refine agree_overIn rfl ?_ | refine agree_maskIn rfl ?_)))⟩
        rw [take_succ_getD xs [] (by omega), take_succ_getD ys [] (by omega), hT, hc]
    · refine ret1 rfl (rt rfl) ⟨congrArg Value.bool (Eq.symm (decide_eq_true ?_)), hE⟩
      rwa [List.take_of_length_le (by omega), List.take_of_length_le (by omega)] at hT
end Go.Proofs.YthhfjagnmhhapaaGreat

namespace Go.Proofs.YthhfjagnmhhapaaGreat
open Go.W Go.PM

theorem set_take_mem {n : Nat} {l : List Int} {bs : List Bool} (hb : bs.length = n) (hm : ∀ x, x < n → (bs.getD x false = true ↔ (x : Int) ∈ l)) {y : Int} (h0 : 0 ≤ y) (_h1 : y < n) :
    ∀ x, x < n → ((bs.set y.toNat true).getD x false = true ↔ (x : Int) ∈ l ++ [y]) := by
  intro x hx
  simp only [List.getD_eq_getElem?_getD, List.getElem?_set, List.mem_append, List.mem_singleton]
  have := hm x hx
  simp only [List.getD_eq_getElem?_getD] at this
  split
  · rename_i e
    have e2 : (x : Int) = y := by omega
    rw [if_pos (by omega)]
    simp [e2]
  · rename_i e
    rw [this]
    constructor
    · exact .inl
    · rintro (h | h)
      · exact h
      · omega

theorem refValid_spec {xs : List Int} {a : Option Addr} {w : World} (hx : Sl w a (intsL xs)) (cap : Nat) :
    CallsR Tryz.prog 38 #[.slice a xs.length cap] w fun v w' => v = .bool (decide (IsPerm xs)) ∧ Ex w w' := by
  refine callsR_of (args := [_]) Tryz.func38 rfl rfl ?_
  repeat' (first | (refine k_makeB rfl rfl (by omega) (by omega) (fun g w1 hn => ⟨fun _ _ => trivial, ?_⟩)) | (refine k_pure rfl ?_) | (refine then_normal ?_) | (refine cw_seq ?_) | (refine cw_region rfl ?_) | (refine rr_nil ?_) | (refine k_len rfl ?_) | (refine g_run rfl rfl ?_) | (refine g_skip rfl rfl ?_) | (refine g_dec_f rfl rfl (fun hc => ?_) (fun hc => ?_)) | (refine cw_cond_true rfl ?_) | (refine cw_cond_dec rfl (fun hc => ?_) (fun hc => ?_)) | (refine cw_block ?_) | (refine cw_ret ?_) | (refine then_ret ?_) | (refine cw_skip ?_))
  · refine ret1 rfl (rt rfl) ⟨congrArg Value.bool (Eq.symm (decide_eq_false ?_)), Ex.refl _⟩
    rintro ⟨h1, h2, _⟩; omega
  · refine cw_loop (ι := Nat × List Bool) [2, 5, 19, 20, 21, 22, 23, 24, 25, 26, 27, 28, 29, 30, 31, 32, 33, 34, 35, 36, 37, 38, 39, 40] (fun s => [(19, .int .i64 (s.1 : Int))])
      (fun s w' => s.1 ≤ xs.length ∧ Ex w w' ∧ Blk w' g 4 (s.2.map Value.bool) ∧ s.2.length = xs.length ∧ (∀ x, x < xs.length → (s.2.getD x false = true ↔ (x : Int) ∈ xs.take s.1)) ∧ Dist xs.length (xs.take s.1)) (fun s => xs.length - s.1)
      (0, List.replicate xs.length false) ⟨rfl, trivial⟩ ⟨by simp, hn.ex, hn.blk, by simp, by intro x hx; simp [hx], good_nil _⟩ ?_
    rintro ⟨k, bs⟩ ξ w2 ⟨hk, hE, hb, hbl, hS, hG⟩
    simp only at hk hb hbl hS hG
    show CW _ _ _ _ (over [(19, .int .i64 (k : Int))] _) w2
    repeat' (first | (refine k_indexN rfl rfl (hx.plain (by simp; omega)) (by omega) ?_) | (refine k_loadI rfl (hx.ext hE) (by omega) ?_) | (refine k_index1 rfl rfl ⟨_, _, rfl⟩ (by omega) (by omega) ?_) | (refine k_loadB rfl hb.sl (by omega) ?_) | (refine k_storeB rfl rfl hb (by omega) (fun w3 hc3 hb3 => ⟨fun _ _ => trivial, ?_⟩)) | (refine k_pure rfl ?_) | (refine then_normal ?_) | (refine cw_seq ?_) | (refine cw_region rfl ?_) | (refine rr_nil ?_) | (refine k_len rfl ?_) | (refine g_run rfl rfl ?_) | (refine g_skip rfl rfl ?_) | (refine g_dec_f rfl rfl (fun hc => ?_) (fun hc => ?_)) | (refine k_addI rfl rfl (by omega) (by omega) ?_) | (refine cw_cond_true rfl ?_) | (refine cw_cond_dec rfl (fun hc => ?_) (fun hc => ?_)) | (refine cw_cond rfl (fun hc => ?_) (fun hc => ?_)) | (refine cw_block ?_) | (refine cw_exit ?_) | (refine then_exit ?_) | (refine in_exit ?_) | (refine in_normal ?_) | (refine cw_ret ?_) | (refine then_ret ?_) | (refine in_ret ?_) | (refine cw_skip ?_))
    · refine ret1 rfl (rt rfl) ⟨congrArg Value.bool (Eq.symm (not_isPerm (k := k) (by omega) ?_)), hE⟩
      intro h
      rw [hS _ (by omega), Int.toNat_of_nonneg (by omega)] at hc
      exact h.2.2 hc
    · have hni : xs.getD k 0 ∉ xs.take k := fun h => by
        have := (hS (xs.getD k 0).toNat (by omega)).2 (by rw [Int.toNat_of_nonneg (by omega)]; exact h)
        rw [hc] at this; cases this
      refine ⟨⟨(k + 1, bs.set (xs.getD k 0).toNat true), ⟨by simp only; omega, hE.chg hc3 hn.lo, hb3, by simp [hbl], ?_, ?_⟩, by simp only; omega, rfl, trivial⟩, (by (repeat (first | exact agree_mask _ _ _ | refine agree_upd rfl ?_ | refine agree_updO rfl ?_ | refine agree_overIn rfl ?_ | refine agree_maskIn rfl ?_)))⟩
      · simp only
        rw [take_succ_getD xs 0 (by omega)]
        exact set_take_mem hbl hS (by omega) (by omega)
      · simp only
        rw [take_succ_getD xs 0 (by omega), good_snoc]
        exact ⟨hG, by omega, by omega, hni⟩
    · refine ret1 rfl (rt rfl) ⟨congrArg Value.bool (Eq.symm (not_isPerm (k := k) (by omega) ?_)), hE⟩
      omega
    · refine ret1 rfl (rt rfl) ⟨congrArg Value.bool (Eq.symm (not_isPerm (k := k) (by omega) ?_)), hE⟩
      omega
    · refine ret1 rfl (rt rfl) ⟨congrArg Value.bool (Eq.symm (isPerm_of_good (by omega) (by omega) ?_)), hE⟩
      rw [List.take_of_length_le (by omega)] at hG
      exact hG
  · refine ret1 rfl (rt rfl) ⟨congrArg Value.bool (Eq.symm (decide_eq_false ?_)), Ex.refl _⟩
    rintro ⟨h1, h2, _⟩; omega

theorem product_spec {xs ys : List Int} {a a' : Option Addr} {w : World} (hx : Sl w a (intsL xs)) (hy : Sl w a' (intsL ys)) (cap cap' : Nat) (hl : xs.length ≤ 100000) (hr : ∀ y ∈ xs, 0 ≤ y ∧ y < ys.length) :
    CallsR Tryz.prog 62 #[.slice a xs.length cap, .slice a' ys.length cap'] w fun v w' =>
      ∃ b c, v = .slice b (mulP xs ys).length c ∧ Own w' w.heap.size 3 1 b (mulP xs ys).length c (intsL (mulP xs ys)) ∧ Ex w w' := by
  refine callsR_of (args := [_, _]) Tryz.func62 rfl rfl ?_
  repeat' (first | (refine k_pure rfl ?_) | (refine then_normal ?_) | (refine cw_seq ?_) | (refine cw_region rfl ?_) | (refine rr_nil ?_) | (refine k_len rfl ?_) | (refine cw_block ?_))
  refine cw_loop (ι := Nat × Option Addr × Nat) [5, 7, 10, 11, 12, 13, 14, 15, 16, 17, 18, 19, 20, 21] (fun s => [(10, .int .i64 (s.1 : Int)), (5, .slice s.2.1 s.1 s.2.2)])
    (fun s w' => s.1 ≤ xs.length ∧ Ex w w' ∧ Own w' w.heap.size 3 1 s.2.1 s.1 s.2.2 (intsL (mulP (xs.take s.1) ys))) (fun s => xs.length - s.1)
    (0, none, 0) ⟨rfl, rfl, trivial⟩ ⟨by simp, Ex.refl _, Own.nil _ _ _ _⟩ ?_
  rintro ⟨k, b, c⟩ ξ w2 ⟨hk, hE, hO⟩
  simp only at hk hO
  show CW _ _ _ _ (over [(10, .int .i64 (k : Int)), (5, .slice b k c)] _) w2
  have hrk : k < xs.length → 0 ≤ xs.getD k 0 ∧ xs.getD k 0 < ys.length := fun h => hr _ (by rw [List.getD_eq_getElem?_getD, List.getElem?_eq_getElem h]; exact List.getElem_mem h)
  repeat' (first | (refine k_indexN rfl rfl (hx.plain (by simp; omega)) (by omega) ?_) | (refine k_loadI rfl (hx.ext hE) (by omega) ?_) | (refine k_index1 rfl rfl (hy.plain (by simp; omega)) (by omega) (by omega) ?_) | (refine k_loadI rfl (hy.ext hE) (by omega) ?_) | (refine k_pure rfl ?_) | (refine then_normal ?_) | (refine cw_seq ?_) | (refine cw_region rfl ?_) | (refine rr_nil ?_) | (refine cw_cond_dec rfl (fun hc => ?_) (fun hc => ?_)) | (refine cw_block ?_) | (refine cw_exit ?_) | (refine then_exit ?_) | (refine in_exit ?_) | (refine cw_ret ?_) | (refine cw_skip ?_))
  · refine k_app1I rfl rfl rfl rfl hO (by omega) (by omega) hE.size (fun g b' c' w3 hO3 hG3 _ => ?_)
    repeat' (first | (refine k_pure rfl ?_) | (refine then_normal ?_) | (refine cw_region rfl ?_) | (refine rr_nil ?_) | (refine k_addI rfl rfl (by omega) (by omega) ?_) | (refine in_normal ?_))
    refine ⟨⟨(k + 1, b', c'), ⟨by simp only; omega, hO.grow_ex hG3 hE (Nat.le_refl _), ?_⟩, by simp only; omega, rfl, rfl, trivial⟩, (by (repeat (first | exact agree_mask _ _ _ | refine agree_upd rfl ?_ | refine agree_updO rfl ?_ | refine agree_overIn rfl ?_ | refine agree_maskIn rfl ?_)))⟩
    simp only
    rw [take_succ_getD xs 0 (by omega), mulP, List.map_append]
    simpa [intsL, mulP] using hO3
  · refine ret1 rfl (rt rfl) ⟨b, c, ?_, ?_, hE⟩
    · have : k = xs.length := by omega
      subst this
      simp [mulP]; rfl
    · have : k = xs.length := by omega
      subst this
      rw [List.take_length] at hO
      simpa [mulP] using hO
end Go.Proofs.YthhfjagnmhhapaaGreat

namespace Go.Proofs.YthhfjagnmhhapaaGreat
open Go.W Go.PM

/-- a list of numbers and a flag, the list in new memory -/
def RetL (w : World) (xs : List Int) (ok : Bool) (v : Value) (w' : World) : Prop :=
  ∃ b c, v = .tuple #[.slice b xs.length c, .bool ok] ∧ Own w' w.heap.size 3 1 b xs.length c (intsL xs) ∧ Ex w w'

end Go.Proofs.YthhfjagnmhhapaaGreat

namespace Go.PM
def identF (n : Int) : List Int × Bool := if 1 ≤ n ∧ n ≤ 512 then (idList n.toNat, true) else ([], false)
def invTo (p : List Int) : Nat → List Int
  | 0 => List.replicate p.length 0
  | k + 1 => (invTo p k).set (p.getD k 0).toNat (k : Int)
theorem invTo_len (p : List Int) : ∀ k, (invTo p k).length = p.length
  | 0 => by simp [invTo]
  | k + 1 => by simp [invTo, invTo_len p k]
end Go.PM
namespace Go.Proofs.YthhfjagnmhhapaaGreat
open Go.W Go.PM

theorem RetL.nil {w w' : World} (hE : Ex w w') : RetL w [] false (.tuple #[.slice none 0 0, .bool false]) w' := ⟨none, 0, rfl, Own.nil _ _ _ _, hE⟩
theorem refIdentity_spec (n : Int) (w : World) : CallsR Tryz.prog 61 #[.int .i64 n] w (RetL w (identF n).1 (identF n).2) := by
  refine callsR_of (args := [_]) Tryz.func61 rfl rfl ?_
  by_cases hn : 1 ≤ n ∧ n ≤ 512
  · obtain ⟨m, rfl⟩ : ∃ m : Nat, n = (m : Int) := ⟨n.toNat, by omega⟩
    have e : identF (m : Int) = (idList m, true) := by rw [identF, if_pos hn, Int.toNat_natCast]
    rw [e]
    repeat' (first | (refine k_pure rfl ?_) | (refine then_normal ?_) | (refine cw_seq ?_) | (refine cw_region rfl ?_) | (refine rr_nil ?_) | (refine g_run rfl rfl ?_) | (refine g_skip rfl rfl ?_) | (refine g_dec_f rfl rfl (fun hc => ?_) (fun hc => ?_)) | (refine cw_cond_true rfl ?_) | (refine cw_cond_dec rfl (fun hc => ?_) (fun hc => ?_)) | (refine cw_block ?_) | (refine cw_ret ?_) | (refine then_ret ?_) | (refine cw_skip ?_))
    all_goals try (exfalso; omega)
    refine cw_loop (ι := Nat × Option Addr × Nat) [4, 5, 12, 13, 14, 15, 16, 17, 18, 19, 20] (fun s => [(5, .int .i64 (s.1 : Int)), (4, .slice s.2.1 s.1 s.2.2)])
      (fun s w' => s.1 ≤ m ∧ Ex w w' ∧ Own w' w.heap.size 3 1 s.2.1 s.1 s.2.2 (intsL (idList s.1))) (fun s => m - s.1)
      (0, none, 0) ⟨rfl, rfl, trivial⟩ ⟨by simp, Ex.refl _, Own.nil _ _ _ _⟩ ?_
    rintro ⟨k, b, c⟩ ξ w2 ⟨hk, hE, hO⟩
    simp only at hk hO
    show CW _ _ _ _ (over [(5, .int .i64 (k : Int)), (4, .slice b k c)] _) w2
    repeat' (first | (refine k_pure rfl ?_) | (refine then_normal ?_) | (refine cw_seq ?_) | (refine cw_region rfl ?_) | (refine rr_nil ?_) | (refine cw_cond_dec rfl (fun hc => ?_) (fun hc => ?_)) | (refine cw_block ?_) | (refine cw_exit ?_) | (refine then_exit ?_) | (refine in_exit ?_) | (refine cw_ret ?_) | (refine cw_skip ?_))
    · refine k_app1I rfl rfl rfl rfl hO (by omega) (by omega) hE.size (fun g b' c' w3 hO3 hG3 _ => ?_)
      repeat' (first | (refine k_pure rfl ?_) | (refine then_normal ?_) | (refine cw_region rfl ?_) | (refine rr_nil ?_) | (refine k_addI rfl rfl (by omega) (by omega) ?_) | (refine in_normal ?_))
      refine ⟨⟨(k + 1, b', c'), ⟨by simp only; omega, hO.grow_ex hG3 hE (Nat.le_refl _), by simp only [idList_succ]; exact hO3⟩, by simp only; omega, rfl, rfl, trivial⟩, (by (repeat (first | exact agree_mask _ _ _ | refine agree_upd rfl ?_ | refine agree_updO rfl ?_ | refine agree_overIn rfl ?_ | refine agree_maskIn rfl ?_)))⟩
    · obtain rfl : k = m := by omega
      refine ret2 rfl (rt rfl) (rt rfl) ⟨b, c, by rw [idList_length]; rfl, by rw [idList_length]; exact hO, hE⟩
  · have e : identF n = ([], false) := by rw [identF, if_neg hn]
    rw [e]
    repeat' (first | (refine k_pure rfl ?_) | (refine then_normal ?_) | (refine cw_seq ?_) | (refine cw_region rfl ?_) | (refine rr_nil ?_) | (refine g_run rfl rfl ?_) | (refine g_skip rfl rfl ?_) | (refine g_dec_f rfl rfl (fun hc => ?_) (fun hc => ?_)) | (refine cw_cond_true rfl ?_) | (refine cw_cond_dec rfl (fun hc => ?_) (fun hc => ?_)) | (refine cw_block ?_) | (refine cw_ret ?_) | (refine then_ret ?_) | (refine cw_skip ?_))
    all_goals first | (exfalso; omega) | exact ret2 rfl (rt rfl) (rt rfl) (RetL.nil (Ex.refl _))

theorem refInv_spec {xs : List Int} {a : Option Addr} {w : World} (hx : Sl w a (intsL xs)) (cap : Nat) (hP : IsPerm xs) :
    CallsR Tryz.prog 63 #[.slice a xs.length cap] w fun v w' => ∃ b c, v = .slice b (invTo xs xs.length).length c ∧ Own w' w.heap.size 3 1 b (invTo xs xs.length).length c (intsL (invTo xs xs.length)) ∧ Ex w w' := by
  refine callsR_of (args := [_]) Tryz.func63 rfl rfl ?_
  have hpl := hP.2.1
  repeat' (first | (refine k_makeI rfl rfl (by omega) (by omega) (fun g w2 hn2 => ⟨fun _ _ => trivial, ?_⟩)) | (refine k_pure rfl ?_) | (refine then_normal ?_) | (refine cw_seq ?_) | (refine cw_region rfl ?_) | (refine rr_nil ?_) | (refine k_len rfl ?_) | (refine cw_block ?_))
  have l1 := hn2.lo
  refine cw_loop (ι := Nat) [4, 5, 11, 12, 13, 14, 15, 16, 17, 18, 19, 20] (fun k => [(11, .int .i64 (k : Int))]) (fun k w' => k ≤ xs.length ∧ Ex w w' ∧ Blk w' g 3 (intsL (invTo xs k))) (fun k => xs.length - k)
    0 ⟨rfl, trivial⟩ ⟨by simp, hn2.ex, hn2.blk⟩ ?_
  rintro k ξ w3 ⟨hk, hE, hb⟩
  have hrk := fun h : k < xs.length => hP.lt h
  have hil := invTo_len xs k
  repeat' (first | (refine k_indexN rfl rfl (hx.plain (by simp; omega)) (by omega) ?_) | (refine k_loadI rfl (hx.ext hE) (by omega) ?_) | (refine k_index1 rfl rfl ⟨_, _, rfl⟩ (by omega) (by omega) ?_) | (refine k_storeI rfl rfl hb (by omega) (fun w4 hc4 hb4 => ⟨fun _ _ => trivial, ?_⟩)) | (refine k_pure rfl ?_) | (refine then_normal ?_) | (refine cw_seq ?_) | (refine cw_region rfl ?_) | (refine rr_nil ?_) | (refine k_addI rfl rfl (by omega) (by omega) ?_) | (refine cw_cond_dec rfl (fun hc => ?_) (fun hc => ?_)) | (refine cw_block ?_) | (refine cw_exit ?_) | (refine then_exit ?_) | (refine in_exit ?_) | (refine in_normal ?_) | (refine cw_ret ?_) | (refine cw_skip ?_))
  · exact ⟨⟨k + 1, ⟨by omega, hE.chg hc4 (by omega), hb4⟩, by omega, rfl, trivial⟩, (by (repeat (first | exact agree_mask _ _ _ | refine agree_upd rfl ?_ | refine agree_updO rfl ?_ | refine agree_overIn rfl ?_ | refine agree_maskIn rfl ?_)))⟩
  · obtain rfl : k = xs.length := by omega
    refine ret1 rfl (rt rfl) ⟨some ⟨g, 0, none⟩, xs.length, by rw [hil]; rfl, ?_, hE⟩
    rw [hil]
    exact hb.own (by simp [hil]) (by simp only [maxLen]; omega) (by omega)
end Go.Proofs.YthhfjagnmhhapaaGreat

/- Breadth-first search over the images of a point under permutations, in plain mathematics. -/
namespace Go.PM

theorem length_le_of_subset {m l : List Int} (hl : l.Nodup) (h : ∀ x ∈ l, x ∈ m) : l.length ≤ m.length := by
  induction l generalizing m with
  | nil => simp
  | cons x l ih =>
    have hx := h x (by simp)
    rw [List.nodup_cons] at hl
    have := ih (m := m.erase x) hl.2 (fun y hy => by
      have hne : y ≠ x := fun e => hl.1 (e ▸ hy)
      exact (List.mem_erase_of_ne hne).2 (h y (by simp [hy])))
    rw [List.length_erase_of_mem hx] at this
    have := List.length_pos_of_mem hx
    simp only [List.length_cons]; omega
theorem Dist.length_le {n : Nat} {l : List Int} (h : Dist n l) : l.length ≤ n := by
  have := length_le_of_subset (m := idList n) h.2 (fun x hx => by
    obtain ⟨h0, h1⟩ := h.1 x hx
    rw [mem_iff_getD]
    exact ⟨x.toNat, by rw [idList_length]; omega, by rw [idList_getD (by omega)]; omega⟩)
  rwa [idList_length] at this

/-- the generators are permutations of n points -/
def Gens (n : Nat) (gens : List (List Int)) : Prop := ∀ p ∈ gens, p.length = n ∧ IsPerm p
theorem drop_getD {α : Type} {l : List α} {j : Nat} {d : α} (h : j < l.length) : l.drop j = l.getD j d :: l.drop (j + 1) := by
  rw [List.drop_eq_getElem_cons h, List.getD_eq_getElem?_getD, List.getElem?_eq_getElem h]; rfl
end Go.PM
namespace Go.PM
/-- the error of the arguments of Orbit -/
def gensOK (n : Int) (gens : List (List Int)) : Prop := ∀ p ∈ gens, (p.length : Int) = n ∧ IsPerm p
instance (n : Int) (gens : List (List Int)) : Decidable (gensOK n gens) := by unfold gensOK; infer_instance
theorem gensOK_snoc {n : Int} {l : List (List Int)} {p : List Int} : gensOK n (l ++ [p]) ↔ gensOK n l ∧ (p.length : Int) = n ∧ IsPerm p := by
  unfold gensOK
  simp only [List.mem_append, List.mem_singleton]
  constructor
  · intro h; exact ⟨fun q hq => h q (.inl hq), h p (.inr rfl)⟩
  · rintro ⟨h1, h2⟩ q (hq | rfl)
    · exact h1 q hq
    · exact h2
theorem not_gensOK {n : Int} {l : List (List Int)} {k : Nat} (hk : k < l.length) (h : ¬ (((l.getD k []).length : Int) = n ∧ IsPerm (l.getD k []))) : ¬ gensOK n l := fun hg => h (hg _ (getD_mem hk))
end Go.PM
namespace Go.PM
/-! sets joined word by word -/
/-! all orbits -/
end Go.PM

/- Iterates and cycles of a permutation, in plain mathematics. -/
namespace Go.PM
def In (p : List Int) (x : Int) : Prop := 0 ≤ x ∧ x < p.length
def ap (p : List Int) (x : Int) : Int := p.getD x.toNat 0
def it (p : List Int) : Nat → Int → Int
  | 0, x => x
  | k + 1, x => ap p (it p k x)
theorem ap_in {p : List Int} (hp : IsPerm p) {x : Int} (h : In p x) : In p (ap p x) := hp.lt (k := x.toNat) (by unfold In at h; omega)
theorem ap_inj {p : List Int} (hp : IsPerm p) {x y : Int} (hx : In p x) (hy : In p y) (h : ap p x = ap p y) : x = y := by
  have hn := nodup_iff.1 hp.2.2.2
  unfold In at hx hy
  rcases Int.lt_trichotomy x y with h' | h' | h'
  · exact absurd h (hn x.toNat y.toNat (by omega) (by omega))
  · exact h'
  · exact absurd h.symm (hn y.toNat x.toNat (by omega) (by omega))
theorem it_in {p : List Int} (hp : IsPerm p) {x : Int} (h : In p x) : ∀ k, In p (it p k x)
  | 0 => h
  | k + 1 => ap_in hp (it_in hp h k)
theorem it_add (p : List Int) (a : Nat) (x : Int) : ∀ b, it p (b + a) x = it p b (it p a x)
  | 0 => by rw [Nat.zero_add]; rfl
  | b + 1 => by rw [show b + 1 + a = (b + a) + 1 by omega]; simp only [it]; rw [it_add p a x b]
theorem it_inj {p : List Int} (hp : IsPerm p) {x y : Int} (hx : In p x) (hy : In p y) : ∀ k, it p k x = it p k y → x = y
  | 0, h => h
  | k + 1, h => it_inj hp hx hy k (ap_inj hp (it_in hp hx k) (it_in hp hy k) h)
def itL (p : List Int) (x : Int) (L : Nat) : List Int := (List.range L).map fun k => it p k x
theorem itL_length (p : List Int) (x : Int) (L : Nat) : (itL p x L).length = L := by simp [itL]
theorem itL_succ (p : List Int) (x : Int) (L : Nat) : itL p x (L + 1) = itL p x L ++ [it p L x] := by simp [itL, List.range_succ]
theorem itL_getD {p : List Int} {x : Int} {L k : Nat} (h : k < L) : (itL p x L).getD k 0 = it p k x := by simp [itL, List.getD_eq_getElem?_getD, h]
theorem mem_itL {p : List Int} {x y : Int} {L : Nat} : y ∈ itL p x L ↔ ∃ k, k < L ∧ it p k x = y := by simp [itL]
theorem itL_dist {p : List Int} (hp : IsPerm p) {x : Int} (hx : In p x) {L : Nat} (h : (itL p x L).Nodup) : Dist p.length (itL p x L) :=
  ⟨fun y hy => by obtain ⟨k, _, rfl⟩ := mem_itL.1 hy; exact it_in hp hx k, h⟩
/-- the first iterate that comes a second time is the point itself -/
theorem first_back {p : List Int} (hp : IsPerm p) {x : Int} (hx : In p x) {k : Nat} (hn : (itL p x k).Nodup) : it p k x ∈ itL p x k ↔ 0 < k ∧ it p k x = x := by
  constructor
  · intro h
    obtain ⟨j, hj, e⟩ := mem_itL.1 h
    refine ⟨by omega, ?_⟩
    cases j with
    | zero => exact e.symm
    | succ j =>
      exfalso
      obtain ⟨k, rfl⟩ : ∃ k', k = k' + 1 := ⟨k - 1, by omega⟩
      have := ap_inj hp (it_in hp hx j) (it_in hp hx k) e
      have hn' := nodup_iff.1 hn j k (by omega) (by rw [itL_length]; omega)
      rw [itL_getD (by omega), itL_getD (by omega)] at hn'
      exact hn' this
  · rintro ⟨h0, e⟩
    exact mem_itL.2 ⟨0, h0, e.symm⟩
def followC (p : List Int) : Nat → Int → List Int → List Int
  | 0, _, acc => acc
  | f + 1, y, acc => if y ∈ acc then acc else followC p f (p.getD y.toNat 0) (acc ++ [y])
def cyc (p : List Int) (x : Int) : List Int := followC p (p.length + 1) x []
theorem follow_spec {p : List Int} (hp : IsPerm p) {x : Int} (hx : In p x) : ∀ (f k : Nat), k + f = p.length + 1 → (itL p x k).Nodup →
    ∃ L, 1 ≤ L ∧ L ≤ p.length ∧ followC p f (it p k x) (itL p x k) = itL p x L ∧ it p L x = x ∧ (itL p x L).Nodup
  | 0, k, hk, hn => by
    have := (itL_dist hp hx hn).length_le
    rw [itL_length] at this; omega
  | f + 1, k, hk, hn => by
    rw [followC]
    by_cases h : it p k x ∈ itL p x k
    · have hl := (itL_dist hp hx hn).length_le
      rw [itL_length] at hl
      obtain ⟨h0, h1⟩ := (first_back hp hx hn).1 h
      exact ⟨k, h0, hl, by rw [if_pos h], h1, hn⟩
    · rw [if_neg h, ← itL_succ]
      refine follow_spec hp hx f (k + 1) (by omega) ?_
      rw [itL_succ, List.nodup_append]
      exact ⟨hn, by simp, fun a ha b hb e => by simp only [List.mem_singleton] at hb; subst hb; subst e; exact h ha⟩
def per (p : List Int) (x : Int) : Nat := (cyc p x).length
theorem cyc_spec {p : List Int} (hp : IsPerm p) {x : Int} (hx : In p x) : 1 ≤ per p x ∧ per p x ≤ p.length ∧ cyc p x = itL p x (per p x) ∧ it p (per p x) x = x ∧ (itL p x (per p x)).Nodup := by
  obtain ⟨L, h1, h2, h3, h4, h5⟩ := follow_spec hp hx (p.length + 1) 0 (by omega) (by simp [itL])
  have e : per p x = L := by
    unfold per cyc
    rw [show followC p (p.length + 1) x [] = itL p x L from h3, itL_length]
  rw [e]
  exact ⟨h1, h2, h3, h4, h5⟩
theorem it_mul {p : List Int} {x : Int} {L : Nat} (h : it p L x = x) : ∀ m, it p (m * L) x = x
  | 0 => by rw [Nat.zero_mul]; rfl
  | m + 1 => by rw [Nat.succ_mul, it_add, h, it_mul h m]
theorem it_mod {p : List Int} {x : Int} {L : Nat} (h : it p L x = x) (k : Nat) : it p k x = it p (k % L) x := by
  conv => lhs; rw [← Nat.mod_add_div k L, Nat.mul_comm L, it_add, it_mul h]
theorem it_eq_iff {p : List Int} (hp : IsPerm p) {x : Int} (hx : In p x) (k : Nat) : it p k x = x ↔ per p x ∣ k := by
  obtain ⟨h1, h2, h3, h4, h5⟩ := cyc_spec hp hx
  constructor
  · intro h
    rw [it_mod h4] at h
    rcases Nat.eq_zero_or_pos (k % per p x) with h0 | h0
    · exact Nat.dvd_of_mod_eq_zero h0
    · exfalso
      have := nodup_iff.1 h5 0 (k % per p x) h0 (by rw [itL_length]; exact Nat.mod_lt _ (by omega))
      rw [itL_getD (by omega), itL_getD (Nat.mod_lt _ (by omega))] at this
      exact this h.symm
  · rintro ⟨m, rfl⟩
    rw [Nat.mul_comm]; exact it_mul h4 m
theorem mem_cyc {p : List Int} (hp : IsPerm p) {x y : Int} (hx : In p x) : y ∈ cyc p x ↔ ∃ k, it p k x = y := by
  obtain ⟨h1, h2, h3, h4, h5⟩ := cyc_spec hp hx
  rw [h3, mem_itL]
  constructor
  · rintro ⟨k, _, e⟩; exact ⟨k, e⟩
  · rintro ⟨k, e⟩; exact ⟨k % per p x, Nat.mod_lt _ (by omega), by rw [← it_mod h4]; exact e⟩
theorem cyc_self {p : List Int} (hp : IsPerm p) {x : Int} (hx : In p x) : x ∈ cyc p x := (mem_cyc hp hx).2 ⟨0, rfl⟩
theorem cyc_in {p : List Int} (hp : IsPerm p) {x y : Int} (hx : In p x) (h : y ∈ cyc p x) : In p y := by obtain ⟨k, rfl⟩ := (mem_cyc hp hx).1 h; exact it_in hp hx k
theorem cyc_symm {p : List Int} (hp : IsPerm p) {x y : Int} (hx : In p x) (h : y ∈ cyc p x) : x ∈ cyc p y := by
  have hy := cyc_in hp hx h
  obtain ⟨h1, h2, h3, h4, h5⟩ := cyc_spec hp hx
  rw [h3] at h
  obtain ⟨k, hk, rfl⟩ := mem_itL.1 h
  exact (mem_cyc hp hy).2 ⟨per p x - k, by rw [← it_add, show per p x - k + k = per p x by omega, h4]⟩
theorem cyc_trans {p : List Int} (hp : IsPerm p) {x y z : Int} (hx : In p x) (h : y ∈ cyc p x) (h' : z ∈ cyc p y) : z ∈ cyc p x := by
  have hy := cyc_in hp hx h
  obtain ⟨k, rfl⟩ := (mem_cyc hp hx).1 h
  obtain ⟨m, rfl⟩ := (mem_cyc hp hy).1 h'
  exact (mem_cyc hp hx).2 ⟨m + k, it_add p k x m⟩
theorem per_one {p : List Int} (hp : IsPerm p) {x : Int} (hx : In p x) : per p x ≤ 1 ↔ ap p x = x := by
  have h := (cyc_spec hp hx).1
  have hi := it_eq_iff hp hx 1
  constructor
  · intro h'; exact hi.2 ⟨1, by omega⟩
  · intro h'; exact Nat.le_of_dvd (by omega) (hi.1 h')
/-! the list of the cycles, as the program finds them -/
def cycGo (p : List Int) : Nat → List Int × List (List Int)
  | 0 => ([], [])
  | k + 1 => if (k : Int) ∈ (cycGo p k).1 ∨ p.getD k 0 = k then cycGo p k else ((cycGo p k).1 ++ cyc p k, (cycGo p k).2 ++ [cyc p k])
def cyclesF (p : List Int) : List (List Int) := if IsPerm p then (cycGo p p.length).2 else []
/-! the same list, as the reference finds it -/
def leastB (l : List Int) : Bool := l.all fun y => decide (l.getD 0 0 ≤ y)
def cycSel (p : List Int) (k : Nat) : Bool := decide (1 < (cyc p k).length) && leastB (cyc p k)
def cycR (p : List Int) : Nat → List (List Int)
  | 0 => []
  | k + 1 => if cycSel p k then cycR p k ++ [cyc p k] else cycR p k
theorem cyc_head {p : List Int} (hp : IsPerm p) {x : Int} (hx : In p x) : (cyc p x).getD 0 0 = x := by
  obtain ⟨h1, h2, h3, h4, h5⟩ := cyc_spec hp hx
  rw [h3, itL_getD (by omega)]; rfl
theorem least_iff {p : List Int} (hp : IsPerm p) {x : Int} (hx : In p x) : leastB (cyc p x) = true ↔ ∀ y ∈ cyc p x, x ≤ y := by
  unfold leastB
  rw [cyc_head hp hx, List.all_eq_true]
  simp
/-- what is seen ahead of point k: the points of cycles with a point below k that moves -/
theorem mem_seen {p : List Int} (hp : IsPerm p) : ∀ k, k ≤ p.length → ∀ y, y ∈ (cycGo p k).1 ↔ ∃ j : Nat, j < k ∧ ap p j ≠ j ∧ y ∈ cyc p j
  | 0, _, y => by simp [cycGo]
  | k + 1, hk, y => by
    have ih := mem_seen hp k (by omega)
    have hkin : In p (k : Int) := by unfold In; omega
    rw [cycGo]
    split
    · rename_i h
      rw [ih y]
      constructor
      · rintro ⟨j, hj, h1, h2⟩; exact ⟨j, by omega, h1, h2⟩
      · rintro ⟨j, hj, h1, h2⟩
        by_cases hjk : j = k
        · subst hjk
          rcases h with h | h
          · obtain ⟨i, hi, h3, h4⟩ := (ih _).1 h
            have hin : In p (i : Int) := by unfold In; omega
            exact ⟨i, hi, h3, cyc_trans hp hin h4 h2⟩
          · exact absurd (by unfold ap; simpa using h) h1
        · exact ⟨j, by omega, h1, h2⟩
    · rename_i h
      simp only [List.mem_append, ih y]
      constructor
      · rintro (⟨j, hj, h1, h2⟩ | h2)
        · exact ⟨j, by omega, h1, h2⟩
        · exact ⟨k, by omega, fun e => h (.inr (by unfold ap at e; simpa using e)), h2⟩
      · rintro ⟨j, hj, h1, h2⟩
        by_cases hjk : j = k
        · subst hjk; exact .inr h2
        · exact .inl ⟨j, by omega, h1, h2⟩
theorem cycSel_iff {p : List Int} (hp : IsPerm p) {k : Nat} (hk : k < p.length) : cycSel p k = true ↔ ¬ ((k : Int) ∈ (cycGo p k).1 ∨ p.getD k 0 = k) := by
  have hin : In p (k : Int) := by unfold In; omega
  have h1 := per_one hp hin
  have e : ap p (k : Int) = p.getD k 0 := by unfold ap; simp
  rw [e] at h1
  unfold cycSel
  rw [Bool.and_eq_true, decide_eq_true_eq, least_iff hp hin, mem_seen hp k (by omega)]
  show 1 < per p k ∧ _ ↔ _
  constructor
  · rintro ⟨h2, h3⟩ (⟨j, hj, h4, h5⟩ | h4)
    · have hj' : In p (j : Int) := by unfold In; omega
      have := h3 j (cyc_symm hp hj' h5)
      omega
    · have := h1.2 h4; omega
  · intro h
    rw [not_or] at h
    have h2 : 1 < per p k := by
      rcases Nat.lt_or_ge 1 (per p k) with h' | h'
      · exact h'
      · exact absurd (h1.1 h') h.2
    refine ⟨h2, fun y hy => ?_⟩
    rcases Int.lt_or_le y k with hlt | hle
    · exfalso
      have hy' := cyc_in hp hin hy
      obtain ⟨j, rfl⟩ := Int.eq_ofNat_of_zero_le hy'.1
      have hc := cyc_symm hp hin hy
      refine h.1 ⟨j, by omega, fun e2 => ?_, hc⟩
      have h3 := (per_one hp hy').2 e2
      obtain ⟨m, hm⟩ := (mem_cyc hp hy').1 hc
      have h4 := (cyc_spec hp hy').1
      have : per p (j : Int) = 1 := by omega
      have h5 := (it_eq_iff hp hy' m).2 (by rw [this]; exact Nat.one_dvd m)
      rw [h5] at hm
      omega
    · exact hle
theorem cycR_eq {p : List Int} (hp : IsPerm p) : ∀ k, k ≤ p.length → cycR p k = (cycGo p k).2
  | 0, _ => rfl
  | k + 1, hk => by
    rw [cycR, cycGo, cycR_eq hp k (by omega)]
    by_cases h : cycSel p k = true
    · rw [if_pos h, if_neg ((cycSel_iff hp (by omega)).1 h)]
    · rw [if_neg h, if_pos (by
        by_cases h2 : ((k : Int) ∈ (cycGo p k).1 ∨ p.getD k 0 = k)
        · exact h2
        · exact absurd ((cycSel_iff hp (by omega)).2 h2) h)]
end Go.PM

/- The order of a permutation, in plain mathematics. -/
namespace Go.PM
def ordTo (l : List (List Int)) : Nat → Nat
  | 0 => 1
  | k + 1 => ordTo l k * ((l.getD k []).length / Nat.gcd (ordTo l k) (l.getD k []).length)
def orderF (p : List Int) : Nat := ordTo (cyclesF p) (cyclesF p).length
/-- the cycles are parts of the points, and none is empty -/
theorem cycGo_dist {p : List Int} (hp : IsPerm p) : ∀ k, k ≤ p.length → Dist p.length (cycGo p k).1 ∧ (cycGo p k).1 = (cycGo p k).2.flatten ∧ ∀ c ∈ (cycGo p k).2, ∃ j : Nat, j < k ∧ ap p j ≠ j ∧ c = cyc p j
  | 0, _ => by simp [cycGo, good_nil]
  | k + 1, hk => by
    obtain ⟨h1, h2, h3⟩ := cycGo_dist hp k (by omega)
    rw [cycGo]
    split
    · exact ⟨h1, h2, fun c hc => by obtain ⟨j, hj, h4⟩ := h3 c hc; exact ⟨j, by omega, h4⟩⟩
    · rename_i h
      rw [not_or] at h
      have hin : In p (k : Int) := by unfold In; omega
      obtain ⟨c1, c2, c3, c4, c5⟩ := cyc_spec hp hin
      have hd := itL_dist hp hin c5
      rw [← c3] at hd
      refine ⟨⟨fun y hy => ?_, ?_⟩, ?_, fun c hc => ?_⟩
      · rcases List.mem_append.1 hy with h' | h'
        · exact h1.1 y h'
        · exact hd.1 y h'
      · rw [List.nodup_append]
        refine ⟨h1.2, hd.2, fun a ha b hb e => ?_⟩
        subst e
        apply h.1
        rw [mem_seen hp k (by omega)] at ha ⊢
        obtain ⟨j, hj, h4, h5⟩ := ha
        have hj' : In p (j : Int) := by unfold In; omega
        exact ⟨j, hj, h4, cyc_trans hp hj' h5 (cyc_symm hp hin hb)⟩
      · rw [List.flatten_append, ← h2]; simp
      · rcases List.mem_append.1 hc with h' | h'
        · obtain ⟨j, hj, h4⟩ := h3 c h'; exact ⟨j, by omega, h4⟩
        · simp only [List.mem_singleton] at h'
          exact ⟨k, by omega, fun e => h.2 (by unfold ap at e; simpa using e), h'⟩
theorem cycles_mem {p : List Int} (k : Nat) (hk : k < (cyclesF p).length) : IsPerm p ∧ ∃ j : Nat, j < p.length ∧ ap p j ≠ j ∧ (cyclesF p).getD k [] = cyc p j := by
  by_cases hp : IsPerm p
  · have e : cyclesF p = (cycGo p p.length).2 := by rw [cyclesF, if_pos hp]
    obtain ⟨_, _, h3⟩ := cycGo_dist hp p.length (Nat.le_refl _)
    rw [e] at hk ⊢
    exact ⟨hp, h3 _ (getD_mem hk)⟩
  · rw [cyclesF, if_neg hp] at hk; simp at hk
theorem cycles_ne {p : List Int} (k : Nat) (hk : k < (cyclesF p).length) : 1 ≤ ((cyclesF p).getD k []).length := by
  obtain ⟨hp, j, hj, h1, h2⟩ := cycles_mem k hk
  rw [h2]
  exact (cyc_spec hp (x := (j : Int)) (by unfold In; omega)).1
end Go.PM

/- Even and odd permutations: inversions, swaps and cycles. No program in sight. -/
namespace Go.PM
/-- the parity of the inversions of place x with the first k places -/
def invRow (p : List Int) (x : Nat) : Nat → Bool
  | 0 => false
  | k + 1 => invRow p x k ^^ decide (p.getD x 0 < p.getD k 0)
def invT (p : List Int) : Nat → Bool
  | 0 => false
  | k + 1 => invT p k ^^ invRow p k k
def evTo (l : List (List Int)) : Nat → Bool
  | 0 => true
  | k + 1 => if (l.getD k []).length % 2 = 0 then !(evTo l k) else evTo l k
def evenF (p : List Int) : Bool := evTo (cyclesF p) (cyclesF p).length
def evenR (p : List Int) : Bool := !invT p p.length

theorem invRow_congr {p q : List Int} {x y : Nat} (hv : p.getD x 0 = q.getD y 0) : ∀ k, (∀ i, i < k → p.getD i 0 = q.getD i 0) → invRow p x k = invRow q y k
  | 0, _ => rfl
  | k + 1, h => by rw [invRow, invRow, invRow_congr hv k (fun i hi => h i (by omega)), hv, h k (by omega)]
theorem invT_congr {p q : List Int} : ∀ k, (∀ i, i < k → p.getD i 0 = q.getD i 0) → invT p k = invT q k
  | 0, _ => rfl
  | k + 1, h => by rw [invT, invT, invT_congr k (fun i hi => h i (by omega)), invRow_congr (h k (by omega)) k (fun i hi => h i (by omega))]
/-- two places next to each other are exchanged -/
theorem invT_adj {l : List Int} {i : Nat} (hi : i + 1 < l.length) (hne : l.getD i 0 ≠ l.getD (i + 1) 0) : ∀ n, i + 1 < n → n ≤ l.length → invT (swapL l i (i + 1)) n = !(invT l n) := by
  have hg := fun k => swapL_getD (l := l) (i := i) (j := i + 1) (by omega) hi k
  have hlow : ∀ k, k < i → (swapL l i (i + 1)).getD k 0 = l.getD k 0 := fun k hk => by rw [hg, if_neg (by omega), if_neg (by omega)]
  have h1 : (swapL l i (i + 1)).getD i 0 = l.getD (i + 1) 0 := by rw [hg, if_neg (by omega), if_pos rfl]
  have h2 : (swapL l i (i + 1)).getD (i + 1) 0 = l.getD i 0 := by rw [hg, if_pos rfl]
  intro n
  induction n with
  | zero => intro h; omega
  | succ n ih =>
    intro hn hl
    by_cases hni : n = i + 1
    · subst hni
      simp only [invT, invRow]
      rw [invT_congr i hlow, invRow_congr (y := i + 1) h1 i hlow, invRow_congr (y := i) h2 i hlow, h1, h2]
      have hx : (decide (l.getD i 0 < l.getD (i + 1) 0)) = !(decide (l.getD (i + 1) 0 < l.getD i 0)) := by
        by_cases h : l.getD i 0 < l.getD (i + 1) 0
        · rw [decide_eq_true h, decide_eq_false (by omega)]; rfl
        · rw [decide_eq_false h, decide_eq_true (by omega)]; rfl
      rw [hx]
      generalize invT l i = a
      generalize invRow l i i = b
      generalize invRow l (i + 1) i = c
      generalize decide (l.getD (i + 1) 0 < l.getD i 0) = d
      revert a b c d; decide
    · rw [invT, invT, ih (by omega) (by omega)]
      have hn' : (swapL l i (i + 1)).getD n 0 = l.getD n 0 := by rw [hg, if_neg (by omega), if_neg (by omega)]
      have hrow : ∀ k, i + 1 < k → k ≤ n → invRow (swapL l i (i + 1)) n k = invRow l n k := by
        intro k
        induction k with
        | zero => intro h; omega
        | succ k ihk =>
          intro hk hkn
          by_cases hki : k = i + 1
          · subst hki
            simp only [invRow]
            rw [invRow_congr (y := n) hn' i hlow, hn', h1, h2]
            generalize invRow l n i = a
            generalize decide (l.getD n 0 < l.getD (i + 1) 0) = b
            generalize decide (l.getD n 0 < l.getD i 0) = c
            revert a b c; decide
          · rw [invRow, invRow, ihk (by omega) (by omega), hn', hg k, if_neg (by omega), if_neg (by omega)]
      rw [hrow n (by omega) (Nat.le_refl _)]
      simp
theorem swapL_comm {l : List Int} {i j : Nat} (hij : i ≠ j) : swapL l i j = swapL l j i := by
  unfold swapL
  rw [List.set_comm _ _ hij]
theorem swapL_three {l : List Int} {i j : Nat} (hij : i < j) (hj : j + 1 < l.length) : swapL l i (j + 1) = swapL (swapL (swapL l j (j + 1)) i j) j (j + 1) := by
  apply ext_getD (by simp [swapL_length])
  intro k hk
  rw [swapL_getD (by omega) hj, swapL_getD (by simp [swapL_length]; omega) (by simp [swapL_length]; omega)]
  simp only [swapL_getD (l := swapL l j (j + 1)) (i := i) (j := j) (by rw [swapL_length]; omega) (by rw [swapL_length]; omega), swapL_getD (l := l) (i := j) (j := j + 1) (by omega) hj]
  have n1 : ¬ i = j + 1 := by omega
  have n2 : ¬ i = j := by omega
  have n3 : ¬ j = i := by omega
  have n4 : ¬ j + 1 = i := by omega
  by_cases h1 : k = j + 1
  · subst h1; simp [n1, n2]
  · by_cases h2 : k = j
    · subst h2; simp [n3, n4]
    · by_cases h3 : k = i
      · subst h3; simp [n1, n2]
      · simp [h1, h2, h3]
theorem invT_swap_lt {n : Nat} : ∀ (m : Nat) {l : List Int} {i j : Nat}, j - i = m + 1 → j < l.length → Dist n l → invT (swapL l i j) l.length = !(invT l l.length)
  | 0, l, i, j, hm, hj, hd => by
    obtain rfl : j = i + 1 := by omega
    exact invT_adj hj (nodup_iff.1 hd.2 i (i + 1) (by omega) hj) l.length hj (Nat.le_refl _)
  | m + 1, l, i, j, hm, hj, hd => by
    obtain ⟨j, rfl⟩ : ∃ j', j = j' + 1 := ⟨j - 1, by omega⟩
    rw [swapL_three (by omega) hj]
    have d1 := swapL_dist (i := j) (j := j + 1) (by omega) hj hd
    have d2 := swapL_dist (i := i) (j := j) (by rw [swapL_length]; omega) (by rw [swapL_length]; omega) d1
    have a1 := invT_adj hj (nodup_iff.1 hd.2 j (j + 1) (by omega) hj) l.length hj (Nat.le_refl _)
    have a2 := invT_swap_lt m (l := swapL l j (j + 1)) (i := i) (j := j) (by omega) (by rw [swapL_length]; omega) d1
    have a3 := invT_adj (l := swapL (swapL l j (j + 1)) i j) (i := j) (by simp only [swapL_length]; exact hj) (nodup_iff.1 d2.2 j (j + 1) (by omega) (by simp only [swapL_length]; exact hj)) l.length hj (by simp only [swapL_length]; exact Nat.le_refl _)
    rw [swapL_length] at a2
    rw [a3, a2, a1]
    simp
theorem invT_swap {n : Nat} {l : List Int} {i j : Nat} (hij : i ≠ j) (hi : i < l.length) (hj : j < l.length) (hd : Dist n l) : invT (swapL l i j) l.length = !(invT l l.length) := by
  rcases Nat.lt_or_gt_of_ne hij with h | h
  · exact invT_swap_lt (j - i - 1) (by omega) hj hd
  · rw [swapL_comm hij]; exact invT_swap_lt (i - j - 1) (by omega) hi hd
/-- k exchanges of two places each -/
inductive Sw (l : List Int) : Nat → List Int → Prop
  | nil : Sw l 0 l
  | cons {k : Nat} {q : List Int} (i j : Nat) (h : Sw l k q) (hij : i ≠ j) (hi : i < q.length) (hj : j < q.length) : Sw l (k + 1) (swapL q i j)
theorem Sw.len {l q : List Int} {k : Nat} (h : Sw l k q) : q.length = l.length := by
  induction h with
  | nil => rfl
  | cons i j h _ _ _ ih => rw [swapL_length, ih]
theorem Sw.dist {n : Nat} {l q : List Int} {k : Nat} (h : Sw l k q) (hd : Dist n l) : Dist n q := by
  induction h with
  | nil => exact hd
  | cons i j h _ hi hj ih => exact swapL_dist hi hj ih
theorem Sw.inv {n : Nat} {l q : List Int} {k : Nat} (h : Sw l k q) (hd : Dist n l) : invT q l.length = (invT l l.length ^^ decide (k % 2 = 1)) := by
  induction h with
  | nil => simp
  | @cons k q i j h hij hi hj ih =>
    have := invT_swap hij hi hj (h.dist hd)
    rw [h.len] at this
    rw [this, ih]
    have e : decide ((k + 1) % 2 = 1) = !(decide (k % 2 = 1)) := by
      by_cases hk : k % 2 = 1
      · simp [hk]; omega
      · simp [hk]; omega
    rw [e]
    simp
theorem mulP_getD {p q : List Int} {k : Nat} (h : k < p.length) : (mulP p q).getD k 0 = q.getD (p.getD k 0).toNat 0 := by simp [mulP, List.getD_eq_getElem?_getD, h]
theorem mulP_swap {p q : List Int} {i j : Nat} (hi : i < p.length) (hj : j < p.length) : mulP (swapL p i j) q = swapL (mulP p q) i j := by
  apply ext_getD (by simp [mulP_length, swapL_length])
  intro k hk
  rw [mulP_length, swapL_length] at hk
  rw [mulP_getD (by rw [swapL_length]; exact hk), swapL_getD hi hj, swapL_getD (by rw [mulP_length]; exact hi) (by rw [mulP_length]; exact hj), mulP_getD hi, mulP_getD hj, mulP_getD hk]
  split
  · rfl
  · split <;> rfl
theorem Sw.mul {l p q : List Int} {k : Nat} (h : Sw l k p) : Sw (mulP l q) k (mulP p q) := by
  induction h with
  | nil => exact .nil
  | cons i j h hij hi hj ih => rw [mulP_swap hi hj]; exact .cons i j ih hij (by rw [mulP_length]; exact hi) (by rw [mulP_length]; exact hj)
theorem Sw.trans {a b c : List Int} {k m : Nat} (h1 : Sw a k b) (h2 : Sw b m c) : Sw a (k + m) c := by
  induction h2 with
  | nil => exact h1
  | cons i j h hij hi hj ih => exact .cons i j ih hij hi hj
theorem mulP_id {n : Nat} {q : List Int} (h : q.length = n) : mulP (idList n) q = q := by
  apply ext_getD (by simp [mulP_length, idList_length, h])
  intro k hk
  rw [mulP_length, idList_length] at hk
  rw [mulP_getD (by rw [idList_length]; exact hk), idList_getD hk]; simp
theorem inv_id (n : Nat) : ∀ k, k ≤ n → invT (idList n) k = false
  | 0, _ => rfl
  | k + 1, hk => by
    rw [invT, inv_id n k (by omega)]
    have : ∀ m, m ≤ k → invRow (idList n) k m = false := by
      intro m
      induction m with
      | zero => intro _; rfl
      | succ m ih =>
        intro hm
        rw [invRow, ih (by omega), idList_getD (by omega), idList_getD (by omega)]
        simp; omega
    rw [this k (Nat.le_refl _)]; rfl
/-! a cycle as a product of exchanges -/
def cycSw (p : List Int) (x : Int) : Nat → List Int → List Int
  | 0, q => q
  | t + 1, q => swapL (cycSw p x t q) (it p t x).toNat (it p (t + 1) x).toNat
theorem cycSw_len (p : List Int) (x : Int) (q : List Int) : ∀ t, (cycSw p x t q).length = q.length
  | 0 => rfl
  | t + 1 => by rw [cycSw, swapL_length, cycSw_len p x q t]
theorem cycSw_spec {p : List Int} (hp : IsPerm p) {x : Int} (hx : In p x) {q : List Int} (hq : q.length = p.length) (hfix : ∀ k, k < per p x → q.getD (it p k x).toNat 0 = it p k x) :
    ∀ t, t < per p x → Sw q t (cycSw p x t q) ∧ (∀ k, k < t → (cycSw p x t q).getD (it p k x).toNat 0 = it p (k + 1) x) ∧ (cycSw p x t q).getD (it p t x).toNat 0 = x ∧
      (∀ k, t < k → k < per p x → (cycSw p x t q).getD (it p k x).toNat 0 = it p k x) ∧ ∀ y : Nat, (∀ k, k < per p x → it p k x ≠ y) → (cycSw p x t q).getD y 0 = q.getD y 0 := by
  obtain ⟨c1, c2, c3, c4, c5⟩ := cyc_spec hp hx
  have hin := fun k => it_in hp hx k
  unfold In at hin
  have hne : ∀ i j, i < per p x → j < per p x → i ≠ j → (it p i x).toNat ≠ (it p j x).toNat := fun i j hi hj hij e => by
    have h1 := hin i
    have h2 := hin j
    have e2 : it p i x = it p j x := by omega
    rcases Nat.lt_or_gt_of_ne hij with h | h
    · have := nodup_iff.1 c5 i j h (by rw [itL_length]; exact hj)
      rw [itL_getD hi, itL_getD hj] at this
      exact this e2
    · have := nodup_iff.1 c5 j i h (by rw [itL_length]; exact hi)
      rw [itL_getD hi, itL_getD hj] at this
      exact this e2.symm
  intro t
  induction t with
  | zero =>
    intro h
    exact ⟨.nil, fun k hk => by omega, by have := hfix 0 h; simpa [cycSw, it] using this, fun k _ hk => hfix k hk, fun y _ => rfl⟩
  | succ t ih =>
    intro h
    obtain ⟨i1, i2, i3, i4, i5⟩ := ih (by omega)
    have hl := cycSw_len p x q t
    have a1 : (it p t x).toNat < (cycSw p x t q).length := by have := hin t; omega
    have a2 : (it p (t + 1) x).toNat < (cycSw p x t q).length := by have := hin (t + 1); omega
    have hg := fun k => swapL_getD a1 a2 k
    refine ⟨.cons _ _ i1 (hne t (t + 1) (by omega) h (by omega)) a1 a2, fun k hk => ?_, ?_, fun k hk hk2 => ?_, fun y hy => ?_⟩
    · rw [cycSw, hg]
      by_cases hkt : k = t
      · subst hkt
        rw [if_neg (hne k (k + 1) (by omega) h (by omega)), if_pos rfl, i4 (k + 1) (by omega) h]
      · rw [if_neg (hne k (t + 1) (by omega) h (by omega)), if_neg (hne k t (by omega) (by omega) hkt), i2 k (by omega)]
    · rw [cycSw, hg, if_pos rfl, i3]
    · rw [cycSw, hg, if_neg (hne k (t + 1) hk2 h (by omega)), if_neg (hne k t hk2 (by omega) (by omega)), i4 k (by omega) hk2]
    · rw [cycSw, hg]
      have b1 := hy t (by omega)
      have b2 := hy (t + 1) h
      have h1 := hin t
      have h2 := hin (t + 1)
      rw [if_neg (by omega), if_neg (by omega), i5 y hy]
/-- the permutation is made of its cycles -/
theorem perm_sw {p : List Int} (hp : IsPerm p) : ∀ k, k ≤ p.length → ∃ q s, Sw (idList p.length) s q ∧ (decide (s % 2 = 0) = evTo (cycGo p k).2 (cycGo p k).2.length) ∧
    (∀ y : Nat, (y : Int) ∈ (cycGo p k).1 → q.getD y 0 = p.getD y 0) ∧ ∀ y : Nat, y < p.length → ¬ (y : Int) ∈ (cycGo p k).1 → q.getD y 0 = y
  | 0, _ => ⟨idList p.length, 0, .nil, rfl, by simp [cycGo], fun y hy _ => idList_getD hy⟩
  | k + 1, hk => by
    obtain ⟨q, s, h1, h2, h3, h4⟩ := perm_sw hp k (by omega)
    have hin : In p (k : Int) := by unfold In; omega
    rw [cycGo]
    split
    · exact ⟨q, s, h1, h2, h3, h4⟩
    · rename_i hnot
      rw [not_or] at hnot
      obtain ⟨c1, c2, c3, c4, c5⟩ := cyc_spec hp hin
      have hql : q.length = p.length := by rw [h1.len, idList_length]
      have hseen := mem_seen hp k (by omega)
      have hns : ∀ j, ¬ it p j k ∈ (cycGo p k).1 := fun j hj => by
        apply hnot.1
        rw [hseen] at hj ⊢
        obtain ⟨i, hi, e1, e2⟩ := hj
        have hi' : In p (i : Int) := by unfold In; omega
        exact ⟨i, hi, e1, cyc_trans hp hi' e2 (cyc_symm hp hin ((mem_cyc hp hin).2 ⟨j, rfl⟩))⟩
      have hfix : ∀ j, j < per p k → q.getD (it p j k).toNat 0 = it p j k := fun j _ => by
        have hj := it_in hp hin j
        unfold In at hj
        have := h4 (it p j k).toNat (by omega) (by rw [Int.toNat_of_nonneg hj.1]; exact hns j)
        rw [this, Int.toNat_of_nonneg hj.1]
      obtain ⟨s1, s2, s3, s4, s5⟩ := cycSw_spec hp hin hql hfix (per p k - 1) (by omega)
      refine ⟨cycSw p k (per p k - 1) q, s + (per p k - 1), h1.trans s1, ?_, fun y hy => ?_, fun y hy hny => ?_⟩
      · rw [List.length_append, List.length_singleton, evTo]
        have e1 : ((cycGo p k).2 ++ [cyc p k]).getD (cycGo p k).2.length [] = cyc p k := by simp [List.getD_eq_getElem?_getD]
        have e2 : ∀ m, m ≤ (cycGo p k).2.length → evTo ((cycGo p k).2 ++ [cyc p k]) m = evTo (cycGo p k).2 m := by
          intro m
          induction m with
          | zero => intro _; rfl
          | succ m ih =>
            intro hm
            rw [evTo, evTo, ih (by omega)]
            have : ((cycGo p k).2 ++ [cyc p k]).getD m [] = (cycGo p k).2.getD m [] := by simp [List.getD_eq_getElem?_getD, List.getElem?_append_left (show m < (cycGo p k).2.length by omega)]
            rw [this]
        rw [e1, e2 _ (Nat.le_refl _), ← h2]
        change _ = if per p k % 2 = 0 then _ else _
        by_cases hpar : per p k % 2 = 0
        · rw [if_pos hpar]
          by_cases hs2 : s % 2 = 0
          · simp [hs2]; omega
          · simp [hs2]; omega
        · rw [if_neg hpar]
          by_cases hs2 : s % 2 = 0
          · simp [hs2]; omega
          · simp [hs2]; omega
      · rcases List.mem_append.1 hy with h | h
        · rw [s5 y (fun j _ e => hns j (by rw [e]; exact h))]
          exact h3 y h
        · rw [c3] at h
          obtain ⟨j, hj, e⟩ := mem_itL.1 h
          have e' : (it p j k).toNat = y := by omega
          by_cases hjl : j = per p k - 1
          · have hs3 := s3
            rw [← hjl] at hs3
            rw [e', ] at hs3
            rw [hjl] at hs3
            have hs3' := s3
            rw [← hjl, e'] at hs3'
            rw [hjl] at hs3'
            rw [hs3']
            have : it p (per p k) k = ap p (it p j k) := by rw [show per p k = j + 1 by omega]; rfl
            rw [c4, e] at this
            rw [this]; unfold ap; simp
          · have := s2 j (by omega)
            rw [e'] at this
            rw [this]
            show ap p (it p j k) = _
            rw [e]; unfold ap; simp
      · rw [List.mem_append, not_or] at hny
        rw [s5 y (fun j hj e => hny.2 (by rw [c3]; exact mem_itL.2 ⟨j, hj, e⟩))]
        exact h4 y hy hny.1
theorem even_sw {p : List Int} (hp : IsPerm p) : ∃ s, Sw (idList p.length) s p ∧ decide (s % 2 = 0) = evenF p := by
  obtain ⟨q, s, h1, h2, h3, h4⟩ := perm_sw hp p.length (Nat.le_refl _)
  have hq : q = p := by
    apply ext_getD (by rw [h1.len, idList_length])
    intro y hy
    rw [h1.len, idList_length] at hy
    by_cases hs : (y : Int) ∈ (cycGo p p.length).1
    · exact h3 y hs
    · rw [h4 y hy hs]
      have hin : In p (y : Int) := by unfold In; omega
      rw [mem_seen hp _ (Nat.le_refl _)] at hs
      by_cases hap : ap p y = y
      · unfold ap at hap; simpa using hap.symm
      · exact absurd ⟨y, hy, hap, cyc_self hp hin⟩ hs
  subst hq
  exact ⟨s, h1, by rw [h2, evenF, cyclesF, if_pos hp]⟩
theorem even_eq {p : List Int} (hp : IsPerm p) : evenF p = evenR p := by
  obtain ⟨s, h1, h2⟩ := even_sw hp
  have := h1.inv (idList_dist p.length)
  rw [idList_length, inv_id _ _ (Nat.le_refl _)] at this
  rw [← h2, evenR, this]
  by_cases hs : s % 2 = 0
  · simp [hs]
  · simp [hs]; omega
theorem even_mul {p q : List Int} (hp : IsPerm p) (hq : IsPerm q) (hl : p.length = q.length) (hpq : IsPerm (mulP p q)) : evenF (mulP p q) = (evenF p == evenF q) := by
  obtain ⟨s, h1, h2⟩ := even_sw hp
  have h3 := (h1.mul (q := q)).inv (n := q.length) (by rw [mulP_id hl.symm]; exact hq.2.2)
  rw [mulP_id hl.symm] at h3
  rw [even_eq hpq, even_eq hq, ← h2, evenR, evenR, mulP_length, hl, h3]
  by_cases hs : s % 2 = 0
  · simp [hs]
  · have : s % 2 = 1 := by omega
    simp [this]
end Go.PM

