import Derived.Test.YthhfjagnmhhapaaProg
import Derived.Shelf.SlSortCmp.Whole1
import Derived.Test.YthhfjagnmhhapaaA01
import Derived.Test.YthhfjagnmhhapaaA02
import Derived.Test.YthhfjagnmhhapaaA03
import Derived.Test.YthhfjagnmhhapaaA04
import Derived.Test.YthhfjagnmhhapaaA05
import Derived.Test.YthhfjagnmhhapaaA06
import Derived.Test.YthhfjagnmhhapaaA07
import Derived.Test.YthhfjagnmhhapaaA08
import Derived.Test.YthhfjagnmhhapaaA09
import Derived.Test.YthhfjagnmhhapaaA10
import Derived.Test.YthhfjagnmhhapaaA11
import Derived.Test.YthhfjagnmhhapaaA13
import Derived.Test.YthhfjagnmhhapaaA16
import Derived.Test.YthhfjagnmhhapaaA17
import Derived.Test.YthhfjagnmhhapaaA18
import Derived.Test.YthhfjagnmhhapaaA19
import Derived.Test.YthhfjagnmhhapaaB01
import Derived.Test.YthhfjagnmhhapaaB02
import Derived.Test.YthhfjagnmhhapaaC01

namespace Go.Proofs.Ythhfjagnmhhapaa
open Go.W
instance g13 : Agg Try.prog 13 2 := ⟨by kernel_rfl, by kernel_rfl⟩
instance z22 : Zro Try.prog 22 (.slice none 0 0) := ⟨by kernel_rfl⟩
instance z25 : Zro Try.prog 25 (.int .i64 0) := ⟨by kernel_rfl⟩
instance z39 : Zro Try.prog 39 (.slice none 0 0) := ⟨by kernel_rfl⟩
instance z46 : Zro Try.prog 46 (.nilFunc) := ⟨by kernel_rfl⟩
instance z50 : Zro Try.prog 50 (.nilFunc) := ⟨by kernel_rfl⟩
instance z53 : Zro Try.prog 53 (.nilFunc) := ⟨by kernel_rfl⟩
instance z55 : Zro Try.prog 55 (.nilFunc) := ⟨by kernel_rfl⟩
instance z70 : Zro Try.prog 70 (.nilFunc) := ⟨by kernel_rfl⟩
instance z76 : Zro Try.prog 76 (.nilFunc) := ⟨by kernel_rfl⟩
instance z77 : Zro Try.prog 77 (.nilFunc) := ⟨by kernel_rfl⟩
instance c42 : Fun Try.prog 42 := ⟨by kernel_rfl⟩
instance c43 : Fun Try.prog 43 := ⟨by kernel_rfl⟩
instance c44 : Fun Try.prog 44 := ⟨by kernel_rfl⟩
instance c79 : Fun Try.prog 79 := ⟨by kernel_rfl⟩
instance c80 : Fun Try.prog 80 := ⟨by kernel_rfl⟩
instance c105 : Fun Try.prog 105 := ⟨by kernel_rfl⟩
instance c131 : Fun Try.prog 131 := ⟨by kernel_rfl⟩
end Go.Proofs.Ythhfjagnmhhapaa

/- All elements of a group, listed by the levels of a complete chain: plain laws. -/
namespace Go.PM
structure Enm (H : List Int → Prop) (L : List (List Int)) : Prop where
  nd : L.Nodup
  mem : ∀ p, p ∈ L ↔ H p
theorem Enm.card {H : List Int → Prop} {L : List (List Int)} (h : Enm H L) : Card H L.length := ⟨L, h.nd, h.mem, rfl⟩
def lvlStep (l : Lv) (L : List (List Int)) : List (List Int) := l.back.flatMap fun b => L.map fun p => mulP p (inv b)
theorem enm_id (n : Nat) : Enm (grpOf n []) [idList n] := ⟨by simp, fun p => by rw [List.mem_singleton]; exact Iff.rfl⟩
theorem nodup_of_getD {l : List (List Int)} (h : ∀ i j, i < j → j < l.length → l.getD i [] ≠ l.getD j []) : l.Nodup := by
  refine List.pairwise_iff_getElem.2 fun i j hi hj hij => ?_
  have := h i j hij hj
  rw [List.getD_eq_getElem?_getD, List.getD_eq_getElem?_getD, List.getElem?_eq_getElem hi, List.getElem?_eq_getElem hj] at this
  exact this
theorem mem_back {l : Lv} {b : List Int} (h : b ∈ l.back) : ∃ a, a < l.back.length ∧ l.bk a = b := by
  obtain ⟨a, ha, e⟩ := List.getElem_of_mem h
  exact ⟨a, ha, by unfold Lv.bk; rw [List.getD_eq_getElem?_getD, List.getElem?_eq_getElem ha, e]; rfl⟩
theorem LvOK.inv_pt {n : Nat} {l : Lv} (ok : LvOK n l) {a : Nat} (ha : a < l.orb.length) : ap (inv (l.bk a)) l.pt = l.orb.getD a 0 := by
  have hp := ok.grp.perm _ (ok.bin a ha)
  rw [← ok.bap a ha]; exact ap_inv hp (ok.orb_in (getD_mem (d := 0) ha))
theorem enm_step {n : Nat} {l : Lv} {ls : List Lv} {L : List (List Int)} (hL : Links n (l :: ls)) (hF : Full n (l :: ls)) (h : Enm (grpOf n ls) L) : Enm (grpOf n (l :: ls)) (lvlStep l L) := by
  have ok := hL.1
  have hlen := ok.len
  have n1 := ok.n1
  have hpt := ok.pt
  have hin : ∀ p ∈ L, Gen n l.gens p ∧ ap p l.pt = l.pt := fun p hp => hL.2.1 p ((h.mem p).1 hp)
  have hpm : ∀ p ∈ L, PermN n p := fun p hp => ok.grp.perm p (hin p hp).1
  have hbk : ∀ a, a < l.orb.length → PermN n (inv (l.bk a)) := fun a ha => (ok.grp.perm _ (ok.bin a ha)).inv
  have himg : ∀ a, a < l.orb.length → ∀ p ∈ L, ap (mulP p (inv (l.bk a))) l.pt = l.orb.getD a 0 := fun a ha p hp => by
    rw [ap_mul (hpm p hp) hpt, (hin p hp).2, ok.inv_pt ha]
  refine ⟨?_, fun q => ?_⟩
  · unfold lvlStep
    refine nodup_flat _ ?_ (fun b hb => ?_) (fun b hb b' hb' hne z hz hz' => ?_)
    · refine nodup_of_getD fun i j hij hj e => ?_
      have h1 := ok.inv_pt (a := i) (by omega)
      have h2 := ok.inv_pt (a := j) (by omega)
      unfold Lv.bk at h1 h2
      rw [e] at h1
      exact nodup_iff.1 ok.nd i j hij (by omega) (h1.symm.trans h2)
    · obtain ⟨a, ha, rfl⟩ := mem_back hb
      refine nodup_map _ h.nd fun p hp p' hp' e => ?_
      exact mul_cancel (hpm p hp) (hpm p' hp') (hbk a (by omega)) e
    · obtain ⟨a, ha, rfl⟩ := mem_back hb
      obtain ⟨a', ha', rfl⟩ := mem_back hb'
      obtain ⟨p, hp, rfl⟩ := List.mem_map.1 hz
      obtain ⟨p', hp', e⟩ := List.mem_map.1 hz'
      have e1 := himg a (by omega) p hp
      have e2 := himg a' (by omega) p' hp'
      have e' : mulP p' (inv (l.bk a')) = mulP p (inv (l.bk a)) := e
      rw [e', e1] at e2
      rcases Nat.lt_trichotomy a a' with hlt | heq | hgt
      · exact nodup_iff.1 ok.nd a a' hlt (by omega) e2
      · exact hne (by rw [heq])
      · exact nodup_iff.1 ok.nd a' a hgt (by omega) e2.symm
  · unfold lvlStep
    rw [List.mem_flatMap]
    show _ ↔ Gen n l.gens q
    constructor
    · rintro ⟨b, hb, hq⟩
      obtain ⟨a, ha, rfl⟩ := mem_back hb
      obtain ⟨p, hp, rfl⟩ := List.mem_map.1 hq
      exact ok.grp.mul _ _ (hin p hp).1 (ok.grp.inv (ok.bin a (by omega)))
    · intro hq
      have hqp := ok.grp.perm q hq
      have hy : ap q l.pt ∈ l.orb := (ok.mem' _).2 ⟨q, hq, rfl⟩
      have hto := ok.to_in hy
      have htp := ok.grp.perm _ hto
      have hidx := idxOf_lt hy
      refine ⟨l.to (ap q l.pt), ?_, List.mem_map.2 ⟨mulP q (l.to (ap q l.pt)), ?_, ?_⟩⟩
      · unfold Lv.to Lv.bk
        exact getD_mem (by omega)
      · rw [h.mem]
        refine hF.1 _ (ok.grp.mul _ _ hq hto) ?_
        rw [ap_mul hqp hpt, ok.to_ap hy]
      · show mulP (mulP q (l.to (ap q l.pt))) (inv (l.to (ap q l.pt))) = q
        rw [mul_assoc hqp htp, mul_inv htp, mul_one hqp]
theorem lvlStep_len {n : Nat} {l : Lv} (ok : LvOK n l) (L : List (List Int)) : (lvlStep l L).length = l.orb.length * L.length := by
  unfold lvlStep
  rw [length_flat _ L.length fun b _ => by rw [List.length_map], ok.len]
/-- lexicographic comparison -/
def lexC : List Int → List Int → Int
  | [], [] => 0
  | [], _ :: _ => -1
  | _ :: _, [] => 1
  | x :: xs, y :: ys => if x < y then -1 else if y < x then 1 else lexC xs ys
theorem lexC_self : ∀ l, lexC l l = 0
  | [] => rfl
  | x :: xs => by show (if x < x then -1 else if x < x then 1 else lexC xs xs) = 0; rw [if_neg (by omega), if_neg (by omega)]; exact lexC_self xs
theorem lexC_cons (x y : Int) (xs ys : List Int) : lexC (x :: xs) (y :: ys) = if x < y then -1 else if y < x then 1 else lexC xs ys := rfl
theorem lexC_rng : ∀ l m, lexC l m = -1 ∨ lexC l m = 0 ∨ lexC l m = 1
  | [], [] => .inr (.inl rfl)
  | [], _ :: _ => .inl rfl
  | _ :: _, [] => .inr (.inr rfl)
  | x :: xs, y :: ys => by
    rw [lexC_cons]
    by_cases h1 : x < y
    · rw [if_pos h1]; exact .inl rfl
    · rw [if_neg h1]
      by_cases h2 : y < x
      · rw [if_pos h2]; exact .inr (.inr rfl)
      · rw [if_neg h2]; exact lexC_rng xs ys
theorem lexC_neg : ∀ l m, lexC m l = - lexC l m
  | [], [] => rfl
  | [], _ :: _ => rfl
  | _ :: _, [] => rfl
  | x :: xs, y :: ys => by
    rw [lexC_cons, lexC_cons]
    by_cases h1 : x < y
    · rw [if_pos h1, if_neg (by omega), if_pos h1]; rfl
    · by_cases h2 : y < x
      · rw [if_pos h2, if_neg h1, if_pos h2]
      · rw [if_neg h2, if_neg h1, if_neg h1, if_neg h2]; exact lexC_neg xs ys
theorem lexC_eq : ∀ {l m}, lexC l m = 0 → l = m
  | [], [], _ => rfl
  | [], _ :: _, h => by simp [lexC] at h
  | _ :: _, [], h => by simp [lexC] at h
  | x :: xs, y :: ys, h => by
    rw [lexC_cons] at h
    by_cases h1 : x < y
    · rw [if_pos h1] at h; omega
    · rw [if_neg h1] at h
      by_cases h2 : y < x
      · rw [if_pos h2] at h; omega
      · rw [if_neg h2] at h
        rw [show x = y by omega, lexC_eq h]
theorem lexC_trans : ∀ {l m k}, lexC l m < 0 → lexC m k < 0 → lexC l k < 0
  | [], [], _, h, _ => by simp [lexC] at h
  | [], _ :: _, [], _, h => by simp [lexC] at h
  | [], _ :: _, _ :: _, _, _ => by simp [lexC]
  | _ :: _, [], _, h, _ => by simp [lexC] at h
  | _ :: _, _ :: _, [], _, h => by simp [lexC] at h
  | x :: xs, y :: ys, z :: zs, h, h' => by
    rw [lexC_cons] at h h' ⊢
    by_cases h1 : x < y
    · by_cases h2 : y < z
      · rw [if_pos (by omega)]; omega
      · rw [if_neg h2] at h'
        by_cases h3 : z < y
        · rw [if_pos h3] at h'; omega
        · rw [if_pos (by omega)]; omega
    · rw [if_neg h1] at h
      by_cases h2 : y < x
      · rw [if_pos h2] at h; omega
      · rw [if_neg h2] at h
        by_cases h3 : y < z
        · rw [if_pos (by omega)]; omega
        · rw [if_neg h3] at h'
          by_cases h4 : z < y
          · rw [if_pos h4] at h'; omega
          · rw [if_neg h4] at h'
            rw [if_neg (by omega), if_neg (by omega)]
            exact lexC_trans h h'
/-- an ascending list is known by its elements -/
def Asc (L : List (List Int)) : Prop := L.Pairwise fun p q => lexC p q < 0
end Go.PM

namespace Go.PM
theorem lexC_drop {xs ys : List Int} {k : Nat} (h1 : k < xs.length) (h2 : k < ys.length) : lexC (xs.drop k) (ys.drop k) = if xs.getD k 0 < ys.getD k 0 then -1 else if ys.getD k 0 < xs.getD k 0 then 1 else lexC (xs.drop (k + 1)) (ys.drop (k + 1)) := by
  rw [List.drop_eq_getElem_cons h1, List.drop_eq_getElem_cons h2, lexC_cons, List.getD_eq_getElem?_getD, List.getD_eq_getElem?_getD, List.getElem?_eq_getElem h1, List.getElem?_eq_getElem h2]
  rfl
end Go.PM
namespace Go.Proofs.Ythhfjagnmhhapaa
open Go.W Go.PM
theorem isNaN16_spec (x : Int) (w : World) : CallsR Try.prog 131 #[.int .u16 x] w fun v w' => v = .bool false ∧ w' = w := by
  refine callsR_of (args := [_]) Try.func131 rfl rfl ?_
  repeat' (first | (refine k_neF rfl rfl rfl ?_) | (refine k_pure rfl ?_) | (refine then_normal ?_) | (refine cw_seq ?_) | (refine cw_region rfl ?_) | (refine rr_nil ?_) | (refine cw_ret ?_))
  exact ret1 rfl (rt rfl) ⟨rfl, rfl⟩
def cmpI (x y : Int) : Int := if x < y then -1 else if y < x then 1 else 0
theorem cmp16_spec (x y : Int) (w : World) : CallsR Try.prog 105 #[.int .u16 x, .int .u16 y] w fun v w' => v = .int .i64 (cmpI x y) ∧ w' = w := by
  refine callsR_of (args := [_, _]) Try.func105 rfl rfl ?_
  repeat' (first | (refine k_pure rfl ?_) | (refine then_normal ?_) | (refine cw_seq ?_) | (refine cw_region rfl ?_) | (refine rr_nil ?_))
  refine k_call (isNaN16_spec x w) rfl ?_
  rintro v w1 ⟨rfl, rfl⟩
  refine ⟨fun _ _ => trivial, ?_⟩
  repeat' (first | (refine k_pure rfl ?_) | (refine then_normal ?_) | (refine cw_seq ?_) | (refine cw_region rfl ?_) | (refine rr_nil ?_))
  refine k_call (isNaN16_spec y w1) rfl ?_
  rintro v w2 ⟨rfl, rfl⟩
  refine ⟨fun _ _ => trivial, ?_⟩
  repeat' (first | (refine k_pure rfl ?_) | (refine then_normal ?_) | (refine cw_seq ?_) | (refine cw_region rfl ?_) | (refine rr_nil ?_) | (refine cw_cond_false rfl ?_) | (refine cw_cond_dec rfl (fun hc => ?_) (fun hc => ?_)) | (refine cw_ret ?_) | (refine then_ret ?_) | (refine cw_skip ?_))
  · exact ret1 rfl (rt rfl) ⟨by unfold cmpI; rw [if_pos hc]; rfl, rfl⟩
  · rename_i h1
    exact ret1 rfl (rt rfl) ⟨by unfold cmpI; rw [if_neg h1, if_pos hc]; rfl, rfl⟩
  · rename_i h1
    exact ret1 rfl (rt rfl) ⟨by unfold cmpI; rw [if_neg h1, if_neg hc]; rfl, rfl⟩
theorem compare16_spec {xs ys : List Int} {a b : Option Addr} {c d : Nat} {w : World} (hx : Sl w a (u16L xs)) (hy : Sl w b (u16L ys)) (hlx : xs.length ≤ 1000) (hly : ys.length ≤ 1000) :
    CallsR Try.prog 80 #[.slice a xs.length c, .slice b ys.length d] w fun v w' => v = .int .i64 (lexC xs ys) ∧ w' = w := by
  refine callsR_of (args := [_, _]) Try.func80 rfl rfl ?_
  repeat' (first | (refine k_pure rfl ?_) | (refine then_normal ?_) | (refine cw_seq ?_) | (refine cw_region rfl ?_) | (refine rr_nil ?_) | (refine k_len rfl ?_) | (refine cw_block ?_))
  refine cw_loop (ι := Nat) [4, 5, 6, 7, 8, 11, 12, 13, 14, 15, 16, 17, 18, 19, 20, 21, 22, 23, 24, 25, 26, 27, 28, 29, 30] (fun s => [(11, .int .i64 (s : Int))]) (fun s w' => s ≤ xs.length ∧ s ≤ ys.length ∧ lexC xs ys = lexC (xs.drop s) (ys.drop s) ∧ w' = w) (fun s => xs.length - s)
    0 ⟨rfl, trivial⟩ ⟨Nat.zero_le _, Nat.zero_le _, rfl, rfl⟩ ?_
  rintro k ξ w1 ⟨hk, hk2, he, rfl⟩
  show CW _ _ _ _ (over [(11, .int .i64 (k : Int))] _) w1
  by_cases hkx : k < xs.length
  · by_cases hky : k < ys.length
    · repeat' (first | (refine k_lssT rfl rfl (by omega) ?_) | (refine k_geqF rfl rfl (by omega) ?_) | (refine k_indexN (j := k) (a := a) rfl rfl (hx.plain (by simp; omega)) hkx ?_) | (refine k_indexN (j := k) (a := b) rfl rfl (hy.plain (by simp; omega)) hky ?_) | (refine k_loadI (a := a) rfl hx hkx ?_) | (refine k_loadI (a := b) rfl hy hky ?_) | (refine k_pure rfl ?_) | (refine then_normal ?_) | (refine cw_seq ?_) | (refine cw_region rfl ?_) | (refine rr_nil ?_) | (refine k_len rfl ?_) | (refine cw_cond_true rfl ?_) | (refine cw_cond_false rfl ?_) | (refine cw_block ?_) | (refine cw_skip ?_))
      refine k_call (cmp16_spec (xs.getD k 0) (ys.getD k 0) w1) rfl ?_
      rintro v w2 ⟨rfl, rfl⟩
      refine ⟨fun _ _ => trivial, ?_⟩
      rw [lexC_drop hkx hky] at he
      by_cases h1 : xs.getD k 0 < ys.getD k 0
      · rw [if_pos h1] at he
        have hcm : cmpI (xs.getD k 0) (ys.getD k 0) = -1 := by unfold cmpI; rw [if_pos h1]
        rw [hcm]
        repeat' (first | (refine k_pure rfl ?_) | (refine then_normal ?_) | (refine cw_seq ?_) | (refine cw_region rfl ?_) | (refine rr_nil ?_) | (refine cw_cond_true rfl ?_) | (refine cw_ret ?_) | (refine then_ret ?_) | (refine in_ret ?_))
        exact ret1 rfl (rt rfl) ⟨by rw [he]; rfl, rfl⟩
      · rw [if_neg h1] at he
        by_cases h2 : ys.getD k 0 < xs.getD k 0
        · rw [if_pos h2] at he
          have hcm : cmpI (xs.getD k 0) (ys.getD k 0) = 1 := by unfold cmpI; rw [if_neg h1, if_pos h2]
          rw [hcm]
          repeat' (first | (refine k_pure rfl ?_) | (refine then_normal ?_) | (refine cw_seq ?_) | (refine cw_region rfl ?_) | (refine rr_nil ?_) | (refine cw_cond_true rfl ?_) | (refine cw_ret ?_) | (refine then_ret ?_) | (refine in_ret ?_))
          exact ret1 rfl (rt rfl) ⟨by rw [he]; rfl, rfl⟩
        · rw [if_neg h2] at he
          have hcm : cmpI (xs.getD k 0) (ys.getD k 0) = 0 := by unfold cmpI; rw [if_neg h1, if_neg h2]
          rw [hcm]
          repeat' (first | (refine k_pure rfl ?_) | (refine then_normal ?_) | (refine cw_seq ?_) | (refine cw_region rfl ?_) | (refine rr_nil ?_) | (refine k_addI rfl rfl (by omega) (by omega) ?_) | (refine cw_cond_false rfl ?_) | (refine in_normal ?_) | (refine cw_skip ?_))
          refine ⟨⟨k + 1, ⟨by omega, by omega, he, rfl⟩, by omega, rfl, trivial⟩, (by (repeat (first | exact agree_mask _ _ _ | refine agree_upd rfl ?_ | refine agree_updO rfl ?_ | refine agree_overIn rfl ?_ | refine agree_maskIn rfl ?_)))⟩
    · repeat' (first | (refine k_lssT rfl rfl (by omega) ?_) | (refine k_geqT rfl rfl (by omega) ?_) | (refine k_indexN (j := k) (a := a) rfl rfl (hx.plain (by simp; omega)) hkx ?_) | (refine k_loadI (a := a) rfl hx hkx ?_) | (refine k_pure rfl ?_) | (refine then_normal ?_) | (refine cw_seq ?_) | (refine cw_region rfl ?_) | (refine rr_nil ?_) | (refine k_len rfl ?_) | (refine cw_cond_true rfl ?_) | (refine cw_block ?_) | (refine cw_ret ?_) | (refine then_ret ?_) | (refine in_ret ?_) | (refine cw_skip ?_))
      refine ret1 rfl (rt rfl) ⟨?_, rfl⟩
      rw [he, List.drop_eq_getElem_cons hkx, List.drop_eq_nil_of_le (show ys.length ≤ k by omega)]; rfl
  · obtain rfl : k = xs.length := by omega
    rw [List.drop_eq_nil_of_le (Nat.le_refl _)] at he
    by_cases hly' : xs.length < ys.length
    · repeat' (first | (refine k_lssF (m := (xs.length : Int)) (m' := (xs.length : Int)) rfl rfl (by omega) ?_) | (refine k_lssT rfl rfl (by omega) ?_) | (refine k_pure rfl ?_) | (refine then_normal ?_) | (refine cw_seq ?_) | (refine cw_region rfl ?_) | (refine rr_nil ?_) | (refine k_len rfl ?_) | (refine cw_cond_true rfl ?_) | (refine cw_cond_false rfl ?_) | (refine cw_exit ?_) | (refine then_exit ?_) | (refine in_exit ?_) | (refine cw_ret ?_) | (refine then_ret ?_))
      refine ret1 rfl (rt rfl) ⟨?_, rfl⟩
      rw [he, List.drop_eq_getElem_cons hly']; rfl
    · repeat' (first | (refine k_lssF rfl rfl (by omega) ?_) | (refine k_pure rfl ?_) | (refine then_normal ?_) | (refine cw_seq ?_) | (refine cw_region rfl ?_) | (refine rr_nil ?_) | (refine k_len rfl ?_) | (refine cw_cond_false rfl ?_) | (refine cw_exit ?_) | (refine then_exit ?_) | (refine in_exit ?_) | (refine cw_ret ?_) | (refine cw_skip ?_))
      refine ret1 rfl (rt rfl) ⟨?_, rfl⟩
      rw [he, List.drop_eq_nil_of_le (by omega)]; rfl
end Go.Proofs.Ythhfjagnmhhapaa

/- The laying of the contract for slices.SortFunc at this program, as the tool lay-plain writes it. -/

namespace Go.Proofs
open Go.Shelf
def Try.sortP_ren : Go.Shelf.Ren := ⟨fun | 6 => 79 | 15 => 104 | 14 => 103 | 28 => 129 | 29 => 130 | 20 => 121 | 21 => 122 | 22 => 123 | 23 => 124 | 24 => 125 | 25 => 126 | 26 => 127 | 27 => 128 | 46 => 143 | 47 => 144 | 48 => 145 | 49 => 146 | 50 => 147 | 57 => 150 | n => n, fun | 22 => 93 | 24 => 110 | 25 => 128 | 3 => 3 | 39 => 106 | 0 => 0 | 53 => 105 | 55 => 79 | 4 => 4 | 46 => 164 | 45 => 163 | 50 => 168 | 5 => 5 | 9 => 9 | 66 => 183 | 70 => 187 | 76 => 194 | 77 => 195 | n => n, fun | n => n⟩
theorem Try.sortP : Go.Proofs.SlLaysF.n6 Try.prog Try.sortP_ren := {
  mixed := by kernel_rfl
  f6 := ⟨Try.f79.name, by decide, Try.func79.trans (congrArg some (by kernel_rfl))⟩
  f14 := ⟨Try.f103.name, by decide, Try.func103.trans (congrArg some (by kernel_rfl))⟩
  f15 := Try.func104.trans (congrArg some (by kernel_rfl))
  f20 := ⟨Try.f121.name, by decide, Try.func121.trans (congrArg some (by kernel_rfl))⟩
  f21 := ⟨Try.f122.name, by decide, Try.func122.trans (congrArg some (by kernel_rfl))⟩
  f22 := ⟨Try.f123.name, by decide, Try.func123.trans (congrArg some (by kernel_rfl))⟩
  f23 := ⟨Try.f124.name, by decide, Try.func124.trans (congrArg some (by kernel_rfl))⟩
  f24 := ⟨Try.f125.name, by decide, Try.func125.trans (congrArg some (by kernel_rfl))⟩
  f25 := ⟨Try.f126.name, by decide, Try.func126.trans (congrArg some (by kernel_rfl))⟩
  f26 := ⟨Try.f127.name, by decide, Try.func127.trans (congrArg some (by kernel_rfl))⟩
  f27 := ⟨Try.f128.name, by decide, Try.func128.trans (congrArg some (by kernel_rfl))⟩
  f28 := Try.func129.trans (congrArg some (by kernel_rfl))
  f29 := Try.func130.trans (congrArg some (by kernel_rfl))
  f46 := ⟨Try.f143.name, by decide, Try.func143.trans (congrArg some (by kernel_rfl))⟩
  f47 := Try.func144.trans (congrArg some (by kernel_rfl))
  f48 := Try.func145.trans (congrArg some (by kernel_rfl))
  f49 := ⟨Try.f146.name, by decide, Try.func146.trans (congrArg some (by kernel_rfl))⟩
  f50 := ⟨Try.f147.name, by decide, Try.func147.trans (congrArg some (by kernel_rfl))⟩
  f57 := ⟨Try.f150.name, by decide, Try.func150.trans (congrArg some (by kernel_rfl))⟩
  t0 := Try.underlying0
  a0 := Try.isAgg0
  z0 := Try.sizeOf0
  v0 := Try.zeroValue0
  t3 := Try.underlying3
  a3 := Try.isAgg3
  z3 := Try.sizeOf3
  v3 := Try.zeroValue3
  t4 := Try.underlying4
  a4 := Try.isAgg4
  z4 := Try.sizeOf4
  v4 := Try.zeroValue4
  t5 := Try.underlying5
  a5 := Try.isAgg5
  z5 := Try.sizeOf5
  v5 := Try.zeroValue5
  t9 := Try.underlying9
  a9 := Try.isAgg9
  z9 := Try.sizeOf9
  v9 := Try.zeroValue9
  t22 := Try.underlying93
  a22 := Try.isAgg93
  z22 := Try.sizeOf93
  v22 := Try.zeroValue93
  a24 := Try.isAgg110
  z24 := Try.sizeOf110
  t25 := Try.underlying128
  a25 := Try.isAgg128
  z25 := Try.sizeOf128
  v25 := Try.zeroValue128
  t39 := Try.underlying106
  a39 := Try.isAgg106
  z39 := Try.sizeOf106
  v39 := Try.zeroValue106
  t45 := Try.underlying163
  a45 := Try.isAgg163
  z45 := Try.sizeOf163
  v45 := Try.zeroValue163
  t46 := Try.underlying164
  a46 := Try.isAgg164
  z46 := Try.sizeOf164
  v46 := Try.zeroValue164
  t50 := Try.underlying168
  a50 := Try.isAgg168
  z50 := Try.sizeOf168
  v50 := Try.zeroValue168
  t53 := Try.underlying105
  a53 := Try.isAgg105
  z53 := Try.sizeOf105
  v53 := Try.zeroValue105
  t55 := Try.underlying79
  a55 := Try.isAgg79
  z55 := Try.sizeOf79
  v55 := Try.zeroValue79
  t66 := Try.underlying183
  a66 := Try.isAgg183
  z66 := Try.sizeOf183
  v66 := Try.zeroValue183
  t70 := Try.underlying187
  a70 := Try.isAgg187
  z70 := Try.sizeOf187
  v70 := Try.zeroValue187
  t76 := Try.underlying194
  a76 := Try.isAgg194
  z76 := Try.sizeOf194
  v76 := Try.zeroValue194
  t77 := Try.underlying195
  a77 := Try.isAgg195
  z77 := Try.sizeOf195
  v77 := Try.zeroValue195 }
end Go.Proofs

namespace Go.PM
theorem lexC_ge {l m k : List Int} (h : ¬ lexC l m < 0) (h' : ¬ lexC m k < 0) : ¬ lexC l k < 0 := by
  intro hc
  have n1 := lexC_neg l m
  have n2 := lexC_neg m k
  have n3 := lexC_neg l k
  have r1 := lexC_rng l m
  have r2 := lexC_rng m k
  by_cases e1 : lexC l m = 0
  · rw [lexC_eq e1] at hc; exact h' hc
  · by_cases e2 : lexC m k = 0
    · rw [← lexC_eq e2] at hc; exact h hc
    · have := lexC_trans (l := k) (m := m) (k := l) (by omega) (by omega)
      omega
theorem map_range_getD {α : Type} (l : List α) (d : α) : (List.range l.length).map (fun i => l.getD i d) = l := by
  apply List.ext_getElem?
  intro i
  rw [List.getElem?_map]
  by_cases h : i < l.length
  · rw [List.getElem?_range h, List.getElem?_eq_getElem h]
    simp [List.getD_eq_getElem?_getD, h]
  · rw [List.getElem?_eq_none (by simpa using h), List.getElem?_eq_none (by omega)]; rfl
end Go.PM
namespace Go.Proofs.Ythhfjagnmhhapaa
open Go.W Go.PM Go.Sort Go.Shelf
theorem sort_frame {enc : Nat → Value} {w : World} {g n : Nat} {d' : Array Nat} {os : Array Obj} {F : Nat → Prop} (hg : F g) : Fr F w (sortWorld enc w g 0 n d' os) := by
  refine ⟨rfl, rfl, rfl, by simp [sortWorld], fun k hk hn => ?_⟩
  have hne : g ≠ k := by rintro rfl; exact hn hg
  show ((putRow enc (Sort.ahead w n) g 0 d').heap ++ os)[k]? = _
  rw [Array.getElem?_append_left (by rw [size_putRow]; exact hk)]
  show (w.heap.modify g _)[k]? = _
  rw [Array.getElem?_modify, if_neg hne]
theorem sort_cell {enc : Nat → Value} {w : World} {g n : Nat} {d d' : Array Nat} {os : Array Obj} (hH : Holds enc w g 0 d) (hs : d'.size = d.size) (hg : g < w.heap.size) {j : Nat} (hj : j < d'.size) : (sortWorld enc w g 0 n d' os).cell? ⟨g, j, none⟩ = some (enc d'[j]!) := by
  have h1 := (holds_putRow enc (Sort.ahead w n) g 0 d d' (holds_ahead enc w n g 0 d hH) hs j hj).1
  rw [Nat.zero_add] at h1
  rw [← h1]
  refine World.cell?_of_block (w := putRow enc (Sort.ahead w n) g 0 d') (a := ⟨g, j, none⟩) ?_
  show ((putRow enc (Sort.ahead w n) g 0 d').heap ++ os)[g]? = _
  rw [Array.getElem?_append_left (by rw [size_putRow]; exact hg)]
theorem range_at {m j : Nat} (h : j < m) : (Array.range m)[j]! = j := by simp [h]
set_option maxHeartbeats 1000000 in
/-- slices.SortFunc with slices.Compare at a list of permutations -/
theorem sortP_spec {w : World} {lo cap n : Nat} {b : Option Addr} {sds : List SD} {ps : List (List Int)} (h : OwnLists w lo 110 129 .u16 b cap sds ps) (h0 : 0 < ps.length) (hn : ∀ p ∈ ps, p.length = n) (hn5 : n ≤ 512) (hm : ps.length ≤ 100000) :
    CallsR Try.prog 79 #[.slice b ps.length cap, .func (.func 80) #[] #[]] w fun v w' => v = .tuple #[] ∧ ∃ sds' ps', Lists w' .u16 b sds' ps' ∧ ps'.Perm ps ∧ (ps'.Pairwise fun p q => ¬ lexC q p < 0) ∧ Fr (fun q => lo ≤ q) w w' := by
  have hlen := h.len
  obtain ⟨g, rfl⟩ := h.top.baPos (by omega)
  have hlo := h.top.lo _ rfl
  simp only at hlo
  have hsl := h.top.sl
  have hcur : ∃ cur, w.heap[g]? = some (.cells cur 110 (0, 0)) := by
    rcases h.top.2 with ⟨hv', _⟩ | ⟨g', c, cur, hv', _, hb, _⟩
    · cases hv'
    · simp only [Value.slice.injEq, Option.some.injEq, Addr.mk.injEq] at hv'
      obtain ⟨⟨rfl, _⟩, _⟩ := hv'
      exact ⟨cur, hb⟩
  obtain ⟨cur, hcur⟩ := hcur
  generalize henc : (fun i => (sds.getD i sd0).val : Nat → Value) = enc
  have hencv : ∀ i, enc i = (sds.getD i sd0).val := fun i => by rw [← henc]
  generalize hcf : (fun i j => lexC (ps.getD i []) (ps.getD j []) : Nat → Nat → Int) = cf
  have hcfv : ∀ i j, cf i j = lexC (ps.getD i []) (ps.getD j []) := fun i j => by rw [← hcf]
  have hltv : ∀ i j, ltOf cf i j = decide (lexC (ps.getD i []) (ps.getD j []) < 0) := fun i j => by unfold ltOf; rw [hcfv]
  have hswo : SWO (ltOf cf) := by
    refine ⟨fun x => ?_, fun x y z h1 h2 => ?_, fun x y z h1 h2 => ?_⟩
    · rw [hltv, lexC_self]; rfl
    · rw [hltv, decide_eq_true_eq] at *; exact lexC_trans h1 h2
    · rw [hltv, decide_eq_false_iff_not] at *; exact lexC_ge h1 h2
  have hds : (Array.range ps.length).size = ps.length := by simp
  have hH : Holds enc w g 0 (Array.range ps.length) := fun j hj => by
    rw [hds] at hj
    rw [range_at hj, hencv]
    refine ⟨?_, ?_⟩
    · have := hsl.get j (by rw [List.length_map]; omega)
      have e : (sds.map SD.val).getD j undef = (sds.getD j sd0).val := by
        rw [List.getD_eq_getElem?_getD, List.getElem?_map, List.getD_eq_getElem?_getD, List.getElem?_eq_getElem (by omega)]; rfl
      rw [e] at this
      exact this
    · simp [World.frozen?, hcur]
  have hps : ∀ i, (ps.getD i []).length ≤ 512 := fun i => by
    rcases Nat.lt_or_ge i ps.length with hi | hi
    · rw [hn _ (getD_mem (d := []) hi)]; exact hn5
    · rw [List.getD_eq_getElem?_getD, List.getElem?_eq_none hi]; simp
  have hcmp : CmpLays1 Try.prog 80 #[] enc cf g 0 (Array.range ps.length).size w := by
    intro m os dk hdk x y
    have hfr : Fr (fun q => q = g) w (sortWorld enc w g 0 m dk os) := sort_frame rfl
    have hS : ∀ i, Sl (sortWorld enc w g 0 m dk os) (sds.getD i sd0).a (u16L (ps.getD i [])) ∧ (sds.getD i sd0).len = (ps.getD i []).length := fun i => by
      rcases Nat.lt_or_ge i ps.length with hi | hi
      · exact ⟨(h.each i hi).1.sl.fr hfr (fun ad e he => h.sep i hi _ ad rfl e he.symm), (h.each i hi).2⟩
      · rw [List.getD_eq_getElem?_getD, List.getD_eq_getElem?_getD, List.getElem?_eq_none (by omega), List.getElem?_eq_none hi]
        exact ⟨Sl.nil _ _, rfl⟩
    have hc := compare16_spec (c := (sds.getD x sd0).cap) (d := (sds.getD y sd0).cap) (hS x).1 (hS y).1 (by have := hps x; omega) (by have := hps y; omega)
    rw [hencv, hencv, hcfv]
    unfold SD.val
    rw [(hS x).2, (hS y).2]
    refine Calls.mono hc fun e w' ⟨v, he, hv, hw⟩ => ?_
    subst hv; subst hw
    exact ⟨he, 0, #[], by simp [World.drewN]⟩
  have eg : ∀ args w, (callFunc 80 args).run Try.prog w = .ok (.enter 80 args) w := fun args w => run_callFunc args
  have hcon := Any.slices_SortFunc Try.sortP enc (fun i => by rw [hencv]; rfl) cf hswo 80 #[] g 0 cap (Array.range ps.length) w eg hcmp hH hlo.2 (by rw [hds]; omega)
  rw [hds] at hcon
  change Calls Try.prog 79 _ _ _ at hcon
  refine Calls.mono hcon fun e w' ⟨he, d', k, os, hp, hs, hw⟩ => ⟨_, he, rfl, ?_⟩
  obtain ⟨hsz, _, hpm⟩ := hp
  rw [hds] at hsz
  have hx1 : d'.extract 0 ps.length = d' := by rw [← hsz, Array.extract_size]
  have hx2 : (Array.range ps.length).extract 0 ps.length = Array.range ps.length := by
    have h := Array.extract_size (xs := Array.range ps.length)
    rwa [hds] at h
  rw [hx1, hx2, Array.toList_range] at hpm
  have hdl : d'.toList.length = ps.length := by simp [hsz]
  have hget : ∀ j, j < ps.length → d'.toList[j]? = some d'[j]! := fun j hj => by
    rw [Array.getElem?_toList, getElem!_pos d' j (by omega), Array.getElem?_eq_getElem (by omega)]
  have hlt : ∀ j, j < ps.length → d'[j]! < ps.length := fun j hj => by
    have : d'[j]! ∈ d'.toList := List.mem_of_getElem? (hget j hj)
    exact List.mem_range.1 (hpm.mem_iff.1 this)
  subst hw
  have hfr : Fr (fun q => q = g) w (sortWorld enc w g 0 k d' os) := sort_frame rfl
  refine ⟨d'.toList.map fun i => sds.getD i sd0, d'.toList.map fun i => ps.getD i [], ⟨⟨fun _ => ⟨_, _, rfl⟩, fun j hj => ?_⟩, by simp, fun j hj => ?_⟩, ?_, ?_, sort_frame hlo.1⟩
  · rw [List.length_map, List.length_map, hdl] at hj
    have := sort_cell (n := k) (d' := d') (os := os) hH (by rw [hds]; exact hsz) hlo.2 (j := j) (by omega)
    simp only [elt, Nat.zero_add]
    have e : ((d'.toList.map fun i => sds.getD i sd0).map SD.val).getD j undef = (sds.getD d'[j]! sd0).val := by
      rw [List.getD_eq_getElem?_getD (l := (d'.toList.map fun i => sds.getD i sd0).map SD.val), List.getElem?_map, List.getElem?_map, hget j hj]; rfl
    rw [this, hencv, e]
  · rw [List.length_map, hdl] at hj
    have e1 : (d'.toList.map fun i => sds.getD i sd0).getD j sd0 = sds.getD d'[j]! sd0 := by rw [List.getD_eq_getElem?_getD, List.getElem?_map, hget j hj]; rfl
    have e2 : (d'.toList.map fun i => ps.getD i []).getD j [] = ps.getD d'[j]! [] := by rw [List.getD_eq_getElem?_getD, List.getElem?_map, hget j hj]; rfl
    rw [e1, e2]
    have := hlt j hj
    exact ⟨(h.each _ this).1.sl.fr hfr (fun ad e he => h.sep _ this _ ad rfl e he.symm), (h.each _ this).2⟩
  · have := hpm.map fun i => ps.getD i []
    rwa [map_range_getD] at this
  · rw [List.pairwise_map]
    refine List.pairwise_iff_getElem.2 fun i j hi hj hij => ?_
    rw [hdl] at hj
    have := hs i j (Nat.zero_le _) hij hj
    rw [hltv, decide_eq_false_iff_not] at this
    have g1 := hget i (by omega)
    have g2 := hget j hj
    rw [List.getElem?_eq_getElem (by omega)] at g1 g2
    injection g1 with g1
    injection g2 with g2
    rw [g1, g2]; exact this
end Go.Proofs.Ythhfjagnmhhapaa

namespace Go.Proofs.Ythhfjagnmhhapaa
open Go.W Go.PM Go.LM
/-- products of lengths of orbits -/
theorem prodL_drop {ls : List Lv} {i : Nat} (hi : i < ls.length) : prodL (ls.drop i) = (ls.getD i lv0).orb.length * prodL (ls.drop (i + 1)) := by rw [drop_cons hi]; rfl
theorem flat_take {α β : Type} (f : α → List β) (l : List α) (d : α) {a : Nat} (ha : a < l.length) : (l.take (a + 1)).flatMap f = (l.take a).flatMap f ++ f (l.getD a d) := by
  rw [take_succ_getD l d ha, List.flatMap_append]; simp
theorem gen_perm' {m : Nat} {gens : List (List Int)} (hm1 : 1 ≤ m) (hm2 : m ≤ 512) (hgn : GensN m gens) {p : List Int} (h : Gen m gens p) : PermN m p := h.perm ⟨hm1, hm2⟩ hgn
theorem prodL_le_drop {n : Nat} : ∀ {ls : List Lv}, Links n ls → ∀ i, prodL (ls.drop i) ≤ prodL ls
  | [], _, i => by rw [List.drop_nil]; exact Nat.le_refl _
  | l :: ls, h, 0 => Nat.le_refl _
  | l :: ls, h, i + 1 => by
    rw [List.drop_succ_cons]
    have h1 := prodL_le_drop h.tail i
    have h2 : 1 * prodL ls ≤ l.orb.length * prodL ls := Nat.mul_le_mul_right _ h.1.pos
    show prodL (ls.drop i) ≤ l.orb.length * prodL ls
    omega
set_option maxHeartbeats 4000000 in
theorem sElements_spec {n : Int} {gens : List (List Int)} {a : Option Addr} {sds : List SD} {cap : Nat} {w : World} (hL : Lists w .i64 a sds gens) (hl : gens.length ≤ 1000000) (h11 : errS n gens = 0 → n ≤ 11) :
    CallsR Try.prog 43 #[.int .i64 n, .slice a gens.length cap] w fun v w' => Ex w w' ∧ ∃ (r : Option Addr) (c : Nat) (rs : List SD) (L : List (List Int)) (e : Int), v = .tuple #[.slice r L.length c, .int .i64 e] ∧ Lists w' .i64 r rs L ∧
      (errS n gens ≠ 0 → e = errS n gens ∧ L = []) ∧ (errS n gens = 0 → ∃ k, Card (Gen n.toNat gens) k ∧ ((2000 < k ∧ e = 7 ∧ L = []) ∨ (k ≤ 2000 ∧ e = 0 ∧ Enm (Gen n.toNat gens) L ∧ Asc L))) := by
  refine callsR_of (args := [_, _]) Try.func43 rfl rfl ?_
  repeat' (first | (refine k_pure rfl ?_) | (refine then_normal ?_) | (refine cw_seq ?_) | (refine cw_region rfl ?_) | (refine rr_nil ?_))
  refine k_call (chkS_spec hL hl) rfl ?_
  rintro v w2 ⟨rfl, hE2⟩
  refine ⟨fun _ _ => trivial, ?_⟩
  repeat' (first | (refine k_pure rfl ?_) | (refine then_normal ?_) | (refine cw_seq ?_) | (refine cw_region rfl ?_) | (refine rr_nil ?_) | (refine cw_cond_dec rfl (fun hc => ?_) (fun hc => ?_)) | (refine cw_ret ?_) | (refine then_ret ?_) | (refine cw_skip ?_))
  · exact ret2 rfl (rt rfl) (rt rfl) ⟨hE2, none, 0, [], [], _, rfl, Lists.nil _ _ _, fun _ => ⟨rfl, rfl⟩, fun h => absurd h hc⟩
  · have h0 : errS n gens = 0 := by omega
    obtain ⟨m, rfl, hm1, hm2, hgl, hgn⟩ := errS_zero h0
    have hm11 : m ≤ 11 := by have := h11 h0; omega
    refine k_call (chBuild_spec (base := []) (b := none) (bc := 0) ⟨hm1, hm2⟩ hm11 hgn (hL.ext hE2) (by omega) (Sl.nil _ _) (by simp) (fun i hi => absurd hi (by simp))) rfl ?_
    rintro v w4 ⟨hE4, c, ls, rfl, hC, hG, hF⟩
    refine ⟨fun _ _ => trivial, ?_⟩
    have hEw4 := hE2.trans hE4
    have hcard : Card (Gen m gens) (prodL ls) := (full_card hG.links hF).congr fun p => hG.grp p
    have hlm : ls.length ≤ m := by have := Dist.length_le (hG.dist hF); rwa [ptsL_len] at this
    repeat' (first | (refine k_pure rfl ?_) | (refine then_normal ?_) | (refine cw_seq ?_) | (refine cw_region rfl ?_) | (refine rr_nil ?_))
    refine k_call (ident_spec hm2 w4) rfl ?_
    rintro v w5 ⟨gi, rfl, hgi, hbi, hE5⟩
    refine ⟨fun _ _ => trivial, ?_⟩
    have hid := idList_length m
    rw [hid]
    refine k_lit1 (v := .slice (some ⟨gi, 0, none⟩) m m) rfl rfl (fun gl w6 hn6 => ⟨fun _ _ => trivial, ?_⟩)
    have s5 := hE5.size
    have l6 := hn6.lo
    have hil := hbi.lt
    have hE46 : Ex w4 w6 := hE5.trans hn6.ex
    have hO6 : OwnLists w6 w4.heap.size 110 129 .u16 (some ⟨gl, 0, none⟩) 1 [⟨some ⟨gi, 0, none⟩, m, m⟩] [idList m] := by
      refine ⟨hn6.blk.own (n := 1) rfl (by unfold maxLen; omega) (by omega), rfl, fun i hi => ?_, fun i hi ad ad' e e' => ?_⟩
      · obtain rfl : i = 0 := by simpa using hi
        have hown : Own w6 w4.heap.size 129 1 (some ⟨gi, 0, none⟩) (idList m).length m (u16L (idList m)) := by
          have h := (hbi.ext hn6.ex).own (n := m) (s := 1) (lo := w4.heap.size) (by simp [hid]) (by unfold maxLen; omega) hgi
          rw [hid]; exact h
        exact ⟨hown, hid.symm⟩
      · obtain rfl : i = 0 := by simpa using hi
        have e1 : ad.block = gl := by injection e with e; rw [← e]
        have e2 : ad'.block = gi := by injection e' with e'; rw [← e']
        omega
    have hC6 := hC.ext hE46
    have hstr6 := hC6.str
    unfold chL at hstr6
    have hml := hC6.mok.1
    repeat' (first | (refine k_loadC (Tb := 100) rfl hstr6 rfl ?_) | (refine k_lenMap mapT rfl hC6.map ?_) | (refine k_pure rfl ?_) | (refine then_normal ?_) | (refine cw_seq ?_) | (refine cw_region rfl ?_) | (refine rr_nil ?_) | (refine k_subI rfl rfl (by omega) (by omega) ?_) | (refine k_fieldAddr rfl ?_) | (refine cw_block ?_))
    rw [hml]
    skip
    refine cw_loop (ι := Nat × (Option Addr × Nat) × List SD × List (List Int)) [4, 5, 8, 9, 10, 12, 13, 15, 37, 38, 39, 40, 41, 42, 43, 44, 45, 46, 47, 48, 49, 50, 51, 52, 53, 54, 55, 56, 57, 58, 59, 60, 61, 62, 63, 64, 65, 66, 67, 68, 69, 70, 71, 72, 73, 74, 75, 76, 77, 78, 79, 80, 81, 82, 83, 84, 85] (fun s => [(9, .int .i64 ((s.1 : Int) - 1)), (8, .slice s.2.1.1 s.2.2.2.length s.2.1.2)])
      (fun s w' => s.1 ≤ ls.length ∧ Ex w4 w' ∧ OwnLists w' w4.heap.size 110 129 .u16 s.2.1.1 s.2.1.2 s.2.2.1 s.2.2.2 ∧ Enm (grpOf m (ls.drop s.1)) s.2.2.2 ∧ s.2.2.2.length = prodL (ls.drop s.1) ∧ s.2.2.2.length ≤ 2000) (fun s => s.1)
      (ls.length, (some ⟨gl, 0, none⟩, 1), [⟨some ⟨gi, 0, none⟩, m, m⟩], [idList m]) ⟨rfl, rfl, trivial⟩ ⟨Nat.le_refl _, hE46, hO6, by rw [List.drop_length]; exact enm_id m, by rw [List.drop_length]; rfl, by simp⟩ ?_
    rintro ⟨i, ⟨b, cb⟩, lsd, L⟩ ξ w8 ⟨hi, hE8, hO8, hEn, hLp, hL2⟩
    simp only at hi hO8 hEn hLp hL2
    show CW _ _ _ _ (over [(9, .int .i64 ((i : Int) - 1)), (8, .slice b L.length cb)] _) w8
    have hLl := hO8.len
    have hLpos : 0 < L.length := by rw [hLp]; exact prodL_pos (hG.links.drop i)
    have hLn : ∀ p ∈ L, p.length = m := fun p hp => ((hG.links.drop i).grp.perm p ((hEn.mem p).1 hp)).2
    cases i with
    | zero =>
      rw [List.drop_zero] at hEn hLp
      repeat' (first | (refine k_geqF rfl rfl (by omega) ?_) | (refine k_pure rfl ?_) | (refine then_normal ?_) | (refine cw_seq ?_) | (refine cw_region rfl ?_) | (refine rr_nil ?_) | (refine cw_cond_false rfl ?_) | (refine cw_exit ?_) | (refine then_exit ?_) | (refine in_exit ?_))
      refine k_call (sortP_spec hO8 hLpos hLn hm2 (by omega)) rfl ?_
      rintro v w9 ⟨rfl, sd9, ps, hLs9, hpm, hsrt, hF9⟩
      refine ⟨fun _ _ => trivial, ?_⟩
      have hpl : ps.length = L.length := hpm.length_eq
      have hE9 : Ex w4 w9 := Fr.ex hE8 hF9 (fun q h => h)
      have hsl9 := hLs9.len
      have hnd : ps.Nodup := hpm.nodup_iff.2 hEn.nd
      have hEn9 : Enm (Gen m gens) ps := ⟨hnd, fun p => by rw [hpm.mem_iff, hEn.mem]; exact hG.grp p⟩
      have hAsc : Asc ps := (hsrt.and hnd).imp fun {p q} h => by
        have h1 := lexC_rng p q
        have h2 := lexC_neg p q
        have h3 : lexC p q ≠ 0 := fun e => h.2 (lexC_eq e)
        have h4 := h.1
        omega
      have hpp : ∀ j, j < ps.length → PermN m (ps.getD j []) := fun j hj => gen_perm' hm1 hm2 hgn ((hEn9.mem _).1 (getD_mem (d := []) hj))
      rw [← hpl]
      repeat' (first | (refine k_makeS rfl rfl (by omega) (by omega) (fun g w10 hn10 => ⟨fun _ _ => trivial, ?_⟩)) | (refine k_pure rfl ?_) | (refine then_normal ?_) | (refine cw_seq ?_) | (refine cw_region rfl ?_) | (refine rr_nil ?_) | (refine k_len rfl ?_) | (refine cw_block ?_))
      have l10 := hn10.lo
      refine cw_loop (ι := Nat × List SD) [17, 18, 93, 94, 95, 96, 97, 98, 99, 100, 101, 102, 103] (fun s => [(93, .int .i64 (s.1 : Int))])
        (fun s w' => s.1 ≤ ps.length ∧ Ex w9 w' ∧ Blk w' g 28 (s.2.map SD.val) ∧ s.2.length = ps.length ∧ ∀ j, j < s.1 → (∀ ad, (s.2.getD j sd0).a = some ad → ad.block ≠ g) ∧ Sl w' (s.2.getD j sd0).a (intsL (ps.getD j [])) ∧ (s.2.getD j sd0).len = (ps.getD j []).length) (fun s => ps.length - s.1)
        (0, List.replicate ps.length sd0) ⟨rfl, trivial⟩ ⟨Nat.zero_le _, hn10.ex, hn10.blk, by simp, fun j hj => absurd hj (by simp)⟩ ?_
      rintro ⟨k, es⟩ ξ2 w11 ⟨hk, hE11, hb11, hel, hes⟩
      simp only at hk hb11 hel hes
      show CW _ _ _ _ (over [(93, .int .i64 (k : Int))] _) w11
      have hgl := hb11.lt
      by_cases hkl : k < ps.length
      · have hLs11 := hLs9.ext hE11
        obtain ⟨hsd, hsn⟩ := hLs11.each k hkl
        obtain ⟨⟨ta, tl, tc⟩, hsdk⟩ : ∃ x, sd9.getD k sd0 = x := ⟨_, rfl⟩
        rw [hsdk] at hsd hsn
        simp only at hsd hsn
        subst hsn
        have hpk := hpp k hkl
        repeat' (first | (refine k_lssT rfl rfl (by omega) ?_) | (refine k_indexN (j := k) (a := b) rfl rfl (hLs11.sl.plain (by rw [List.length_map]; omega)) (by omega) ?_) | (refine k_loadSd rfl hLs11.sl (by omega) hsdk ?_) | (refine k_pure rfl ?_) | (refine then_normal ?_) | (refine cw_seq ?_) | (refine cw_region rfl ?_) | (refine rr_nil ?_) | (refine cw_cond_true rfl ?_) | (refine cw_block ?_) | (refine cw_skip ?_))
        refine k_call (toInts_spec (xs := ps.getD k []) hsd tc (fun j hj => by have := hpk.1.lt hj; rw [hpk.2] at this; omega) (by rw [hpk.2]; omega)) rfl ?_
        rintro v w12 ⟨gt, rfl, hgt, hbt, hE12⟩
        refine ⟨fun _ _ => trivial, ?_⟩
        have htl := hbt.lt
        repeat' (first | (refine k_indexN (j := k) rfl rfl ⟨_, _, rfl⟩ (by omega) ?_) | (refine k_storeS (j := k) rfl rfl (hb11.ext hE12) (by omega) (fun w13 hc13 hb13 => ⟨fun _ _ => trivial, ?_⟩)) | (refine k_pure rfl ?_) | (refine then_normal ?_) | (refine cw_region rfl ?_) | (refine rr_nil ?_) | (refine k_addI rfl rfl (by omega) (by omega) ?_) | (refine in_normal ?_))
        refine ⟨⟨(k + 1, es.set k ⟨some ⟨gt, 0, none⟩, (ps.getD k []).length, (ps.getD k []).length⟩), ⟨by simp only; omega, (hE11.trans hE12).chg hc13 l10, hb13, by simp [hel], fun j hj => ?_⟩, by simp only; omega, rfl, trivial⟩, (by (repeat (first | exact agree_mask _ _ _ | refine agree_upd rfl ?_ | refine agree_updO rfl ?_ | refine agree_overIn rfl ?_ | refine agree_maskIn rfl ?_)))⟩
        simp only at hj ⊢
        rw [getD_setS (by omega)]
        by_cases e : k = j
        · subst e
          rw [if_pos rfl]
          exact ⟨fun ad e => by injection e with e; subst e; show gt ≠ g; omega, hbt.sl.chg hc13 (fun ad e => by injection e with e; subst e; show gt ≠ g; omega), rfl⟩
        · rw [if_neg e]
          obtain ⟨a1, a2, a3⟩ := hes j (by omega)
          exact ⟨a1, (a2.ext hE12).chg hc13 a1, a3⟩
      · obtain rfl : k = ps.length := by omega
        repeat' (first | (refine k_lssF rfl rfl (by omega) ?_) | (refine k_pure rfl ?_) | (refine then_normal ?_) | (refine cw_seq ?_) | (refine cw_region rfl ?_) | (refine rr_nil ?_) | (refine cw_cond_false rfl ?_) | (refine cw_exit ?_) | (refine then_exit ?_) | (refine in_exit ?_) | (refine cw_ret ?_))
        refine ret2 rfl (rt rfl) (rt rfl) ⟨(hEw4.trans hE9).trans hE11, some ⟨g, 0, none⟩, ps.length, es, ps, 0, rfl, ⟨hb11.sl, hel, fun j hj => (hes j hj).2⟩, fun h => absurd h0 h, fun _ => ⟨prodL ls, by rw [Int.toNat_natCast]; exact hcard, .inr ⟨by omega, rfl, by rw [Int.toNat_natCast]; exact hEn9, hAsc⟩⟩⟩
    | succ i =>
      have hil : i < ls.length := by omega
      obtain ⟨j, hj, hfd, hjm⟩ := hC.mok.find hil
      have hC8 := hC.ext hE8
      have hstr8 := hC8.str
      unfold chL at hstr8
      have hLv := hC8.lv i hil
      have hLs := hLv.str
      have ok := hG.ok hil
      have hol := ok.orb_le
      have hpos := ok.pos
      have hbkl := ok.len
      have e1 : ((i + 1 : Nat) : Int) - 1 = (i : Int) := by omega
      have hpr := prodL_drop hil
      have hmul : (L.length : Int) * ((ls.getD i lv0).orb.length : Int) = ((L.length * (ls.getD i lv0).orb.length : Nat) : Int) := by rw [Int.natCast_mul]
      have hmb : L.length * (ls.getD i lv0).orb.length ≤ 2000 * 11 := Nat.mul_le_mul hL2 (by omega)
      rw [e1]
      repeat' (first | (refine k_geqT rfl rfl (by omega) ?_) | (refine k_loadC (Tb := 100) rfl hstr8 rfl ?_) | (refine k_lookup mapT intT rfl rfl hC8.map hfd ?_) | (refine k_loadC (Tb := 95) rfl hLs rfl ?_) | (refine k_mulI rfl rfl (by rw [hmul]; omega) (by rw [hmul]; omega) ?_) | (refine k_pure rfl ?_) | (refine then_normal ?_) | (refine cw_seq ?_) | (refine cw_region rfl ?_) | (refine rr_nil ?_) | (refine k_len rfl ?_) | (refine k_fieldAddr rfl ?_) | (refine cw_cond_true rfl ?_) | (refine cw_cond_dec rfl (fun hc => ?_) (fun hc => ?_)) | (refine cw_block ?_) | (refine cw_ret ?_) | (refine then_ret ?_) | (refine in_ret ?_) | (refine cw_skip ?_))
      · refine ret2 rfl (rt rfl) (rt rfl) ⟨hEw4.trans hE8, none, 0, [], [], 7, rfl, Lists.nil _ _ _, fun h => absurd h0 h, fun _ => ⟨prodL ls, by rw [Int.toNat_natCast]; exact hcard, .inl ⟨?_, rfl, rfl⟩⟩⟩
        have h2 := prodL_le_drop hG.links i
        rw [hpr, ← hLp, Nat.mul_comm] at h2
        rw [hmul] at hc
        omega
      · rw [hmul] at hc
        have hE88 : Ex w8 w8 := Ex.refl _
        refine cw_loop (ι := Nat × (Option Addr × Nat) × List SD × List (List Int)) [10, 12, 13, 15, 65, 66, 67, 68, 69, 70, 71, 72, 73, 74, 75, 76, 77, 78, 79, 80, 81, 82, 83, 84] (fun s => [(65, .int .i64 (s.1 : Int)), (10, .slice s.2.1.1 s.2.2.2.length s.2.1.2)])
          (fun s w' => s.1 ≤ (ls.getD i lv0).back.length ∧ Ex w8 w' ∧ OwnLists w' w8.heap.size 110 129 .u16 s.2.1.1 s.2.1.2 s.2.2.1 s.2.2.2 ∧ s.2.2.2 = ((ls.getD i lv0).back.take s.1).flatMap (fun b => L.map fun p => mulP p (inv b)) ∧ s.2.2.2.length = s.1 * L.length) (fun s => (ls.getD i lv0).back.length - s.1)
          (0, (none, 0), [], []) ⟨rfl, rfl, trivial⟩ ⟨Nat.zero_le _, hE88, OwnLists.nil _ _ _ _ _, rfl, by simp⟩ ?_
        rintro ⟨a1, ⟨b1, c1⟩, sd1, L1⟩ ξ1 w9 ⟨ha1, hE9, hO9, hL1, hL1l⟩
        simp only at ha1 hO9 hL1 hL1l
        show CW _ _ _ _ (over [(65, .int .i64 (a1 : Int)), (10, .slice b1 L1.length c1)] _) w9
        have hE49 := hE8.trans hE9
        have hLv9 := (hC.ext hE49).lv i hil
        have s9 := hE9.size
        by_cases ha : a1 < (ls.getD i lv0).back.length
        · have hbs := hLv9.bs.len
          have hsd := hLv9.bs.sl a1 ha
          have hsn := hLv9.bs.n a1 ha
          have hbk := hLv9.bk.sl
          have hpk : PermN m ((ls.getD i lv0).bk a1) := ok.grp.perm _ (ok.bin a1 (by omega))
          obtain ⟨⟨ta, tl, tc⟩, hsdk⟩ : ∃ x, (c.hs i).bs.getD a1 sd0 = x := ⟨_, rfl⟩
          rw [hsdk] at hsd hsn
          simp only at hsd hsn
          subst hsn
          have hsd' : Sl w9 ta (u16L ((ls.getD i lv0).bk a1)) := hsd
          repeat' (first | (refine k_lssT rfl rfl (by omega) ?_) | (refine k_indexN (j := a1) rfl rfl ⟨_, _, rfl⟩ (by omega) ?_) | (refine k_loadSd rfl hbk (by omega) hsdk ?_) | (refine k_pure rfl ?_) | (refine then_normal ?_) | (refine cw_seq ?_) | (refine cw_region rfl ?_) | (refine rr_nil ?_) | (refine cw_cond_true rfl ?_) | (refine cw_block ?_) | (refine cw_skip ?_))
          refine k_call (pinv_spec hsd' tc hpk) (by rw [hpk.2]; rfl) ?_
          rintro v w10 ⟨gv, rfl, hgv, hbv, hE10⟩
          refine ⟨fun _ _ => trivial, ?_⟩
          have hvl := hbv.lt
          have hpi : PermN tl (inv ((ls.getD i lv0).bk a1)) := hpk.inv
          rw [hpi.2]
          have hE810 := hE9.trans hE10
          repeat' (first | (refine k_pure rfl ?_) | (refine then_normal ?_) | (refine cw_seq ?_) | (refine cw_region rfl ?_) | (refine rr_nil ?_) | (refine k_len rfl ?_) | (refine cw_block ?_))
          have hlen1 : L1.length ≤ 2000 := by
            have h1 : a1 * L.length ≤ (ls.getD i lv0).orb.length * L.length := Nat.mul_le_mul_right _ (by omega)
            have h2 := Nat.mul_comm (ls.getD i lv0).orb.length L.length
            omega
          refine cw_loop (ι := Nat × (Option Addr × Nat) × List SD × List (List Int)) [10, 15, 73, 74, 75, 76, 77, 78, 79, 80, 81, 82, 83] (fun s => [(73, .int .i64 (s.1 : Int)), (10, .slice s.2.1.1 s.2.2.2.length s.2.1.2)])
            (fun s w' => s.1 ≤ L.length ∧ Ex w8 w' ∧ (Blk w' gv 129 (u16L (inv ((ls.getD i lv0).bk a1))) ∧ ∀ ad, s.2.1.1 = some ad → ad.block ≠ gv) ∧ OwnLists w' w8.heap.size 110 129 .u16 s.2.1.1 s.2.1.2 s.2.2.1 s.2.2.2 ∧ s.2.2.2 = L1 ++ (L.take s.1).map (fun p => mulP p (inv ((ls.getD i lv0).bk a1)))) (fun s => L.length - s.1)
            (0, (b1, c1), sd1, L1) ⟨rfl, rfl, trivial⟩ ⟨Nat.zero_le _, hE810, ⟨hbv, fun ad e => by have := (hO9.top.lo ad e).2; omega⟩, hO9.ext hE10, by simp⟩ ?_
          rintro ⟨k, ⟨b2, c2⟩, sd2, L2⟩ ξ2 w11 ⟨hk, hE11, ⟨hbv11, hne11⟩, hO11, hL2e⟩
          simp only at hk hO11 hL2e hne11
          show CW _ _ _ _ (over [(73, .int .i64 (k : Int)), (10, .slice b2 L2.length c2)] _) w11
          have hsl2 := hO11.len
          have hL2l : L2.length = L1.length + k := by rw [hL2e, List.length_append, List.length_map, List.length_take]; omega
          by_cases hkl : k < L.length
          · have hLs11 := (hO8.ext hE11).lists
            obtain ⟨hsd2, hsn2⟩ := hLs11.each k hkl
            obtain ⟨⟨qa, ql, qc⟩, hsdk2⟩ : ∃ x, lsd.getD k sd0 = x := ⟨_, rfl⟩
            rw [hsdk2] at hsd2 hsn2
            simp only at hsd2 hsn2
            subst hsn2
            have hpL : PermN tl (L.getD k []) := (hG.links.drop (i + 1)).grp.perm _ ((hEn.mem _).1 (getD_mem (d := []) hkl))
            repeat' (first | (refine k_lssT rfl rfl (by omega) ?_) | (refine k_indexN (j := k) (a := b) rfl rfl (hLs11.sl.plain (by rw [List.length_map]; omega)) (by omega) ?_) | (refine k_loadSd rfl hLs11.sl (by omega) hsdk2 ?_) | (refine k_pure rfl ?_) | (refine then_normal ?_) | (refine cw_seq ?_) | (refine cw_region rfl ?_) | (refine rr_nil ?_) | (refine cw_cond_true rfl ?_) | (refine cw_block ?_) | (refine cw_skip ?_))
            refine k_call (times_spec hsd2 hbv11.sl qc tl (fun j hj => by have := hpL.1.lt hj; rw [hpL.2] at this; rw [hpi.2]; exact this) (by rw [hpL.2]; omega)) (by rw [hpi.2]; rfl) ?_
            rintro v w12 ⟨gt, rfl, hgt, hbt, hE12⟩
            refine ⟨fun _ _ => trivial, ?_⟩
            have htl := hbt.lt
            have s11 := hE11.size
            have s12 := hE12.size
            have hpm : PermN tl (mulP (L.getD k []) (inv ((ls.getD i lv0).bk a1))) := hpL.mul hpi
            have hO12 := hO11.ext hE12
            refine k_app1S (n := sd2.length) (a := b2) (cap := c2) (by show Value.slice b2 L2.length c2 = _; rw [hsl2]) rfl rfl rfl hO12.top (by omega) (by omega) (by omega) (fun g13 b13 c13 w13 ho13 hg13 hA13 => ?_)
            have hown : Own w12 w8.heap.size 129 1 (some ⟨gt, 0, none⟩) (mulP (L.getD k []) (inv ((ls.getD i lv0).bk a1))).length (mulP (L.getD k []) (inv ((ls.getD i lv0).bk a1))).length (u16L (mulP (L.getD k []) (inv ((ls.getD i lv0).bk a1)))) := hbt.own (by simp) (by rw [hpm.2]; unfold maxLen; omega) (by omega)
            have hO13 := hO12.snoc hown (fun ad ad' e e' => by injection e' with e'; subst e'; have := (hO11.top.lo ad e).2; show ad.block ≠ gt; omega) ho13 hg13 hA13
            have hE813 : Ex w8 w13 := hO12.grow_ex hg13 (hE11.trans hE12) (Nat.le_refl _)
            have s13 := hg13.size
            have hbv13 := (hbv11.ext hE12).gb hg13 (fun e => by obtain ⟨ad, e1, e2⟩ := ownBlock_eq e; exact hne11 ad e1 e2)
            have hbvl := hbv11.lt
            repeat' (first | (refine k_pure rfl ?_) | (refine then_normal ?_) | (refine cw_region rfl ?_) | (refine rr_nil ?_) | (refine k_addI rfl rfl (by omega) (by omega) ?_) | (refine in_normal ?_))
            refine ⟨⟨(k + 1, (b13, c13), sd2 ++ [⟨some ⟨gt, 0, none⟩, (mulP (L.getD k []) (inv ((ls.getD i lv0).bk a1))).length, (mulP (L.getD k []) (inv ((ls.getD i lv0).bk a1))).length⟩], L2 ++ [mulP (L.getD k []) (inv ((ls.getD i lv0).bk a1))]), ⟨by simp only; omega, hE813, ⟨hbv13, fun ad e => ?_⟩, hO13, ?_⟩, by simp only; omega, rfl, ?_, trivial⟩, (by (repeat (first | exact agree_mask _ _ _ | refine agree_upd rfl ?_ | refine agree_updO rfl ?_ | refine agree_overIn rfl ?_ | refine agree_maskIn rfl ?_)))⟩
            · simp only at e
              rcases hA13 with h | h
              · rw [h] at e; exact hne11 ad e
              · have := h ad e; omega
            · simp only
              rw [take_succ_getD L [] hkl, List.map_append, hL2e, List.append_assoc]; rfl
            · show Value.slice b13 (sd2.length + 1) c13 = Value.slice b13 (L2 ++ [_]).length c13
              rw [List.length_append, List.length_singleton, hsl2]
          · obtain rfl : k = L.length := by omega
            rw [List.take_length] at hL2e
            repeat' (first | (refine k_lssF rfl rfl (by omega) ?_) | (refine k_pure rfl ?_) | (refine then_normal ?_) | (refine cw_seq ?_) | (refine cw_region rfl ?_) | (refine rr_nil ?_) | (refine k_addI rfl rfl (by omega) (by omega) ?_) | (refine cw_cond_false rfl ?_) | (refine cw_exit ?_) | (refine then_exit ?_) | (refine in_exit ?_) | (refine in_normal ?_))
            refine ⟨⟨(a1 + 1, (b2, c2), sd2, L2), ⟨by simp only; omega, hE11, hO11, ?_, ?_⟩, by simp only; omega, rfl, rfl, trivial⟩, (by (repeat (first | exact agree_mask _ _ _ | refine agree_upd rfl ?_ | refine agree_updO rfl ?_ | refine agree_overIn rfl ?_ | refine agree_maskIn rfl ?_)))⟩
            · simp only
              rw [flat_take _ _ [] ha, ← hL1, hL2e]; rfl
            · simp only
              rw [hL2l, hL1l, Nat.succ_mul]
        · obtain rfl : a1 = (ls.getD i lv0).back.length := by omega
          rw [List.take_length] at hL1
          have hLn1 : L1 = lvlStep (ls.getD i lv0) L := hL1
          repeat' (first | (refine k_lssF rfl rfl (by omega) ?_) | (refine k_pure rfl ?_) | (refine then_normal ?_) | (refine cw_seq ?_) | (refine cw_region rfl ?_) | (refine rr_nil ?_) | (refine k_subI rfl rfl (by omega) (by omega) ?_) | (refine cw_cond_false rfl ?_) | (refine cw_exit ?_) | (refine then_exit ?_) | (refine in_exit ?_) | (refine in_normal ?_))
          refine ⟨⟨(i, (b1, c1), sd1, L1), ⟨by simp only; omega, hE49, hO9.mono (by have := hE8.size; omega), ?_, ?_, ?_⟩, by simp only; omega, rfl, rfl, trivial⟩, (by (repeat (first | exact agree_mask _ _ _ | refine agree_upd rfl ?_ | refine agree_updO rfl ?_ | refine agree_overIn rfl ?_ | refine agree_maskIn rfl ?_)))⟩
          · simp only
            rw [hLn1, drop_cons hil]
            refine enm_step ?_ ?_ hEn
            · have := hG.links.drop i; rwa [drop_cons hil] at this
            · have := hF.drop i; rwa [drop_cons hil] at this
          · simp only
            rw [hLn1, lvlStep_len ok, hLp, hpr]
          · simp only
            rw [hLn1, lvlStep_len ok, Nat.mul_comm]; omega
end Go.Proofs.Ythhfjagnmhhapaa

