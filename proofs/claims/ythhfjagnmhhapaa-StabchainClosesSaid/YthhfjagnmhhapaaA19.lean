
import Derived.Test.YthhfjagnmhhapaaA01
import Derived.Test.YthhfjagnmhhapaaA02
import Derived.Test.YthhfjagnmhhapaaA03
import Derived.Test.YthhfjagnmhhapaaA04
import Derived.Test.YthhfjagnmhhapaaA05
import Derived.Test.YthhfjagnmhhapaaA06
import Derived.Test.YthhfjagnmhhapaaA07
import Derived.Test.YthhfjagnmhhapaaA08
import Derived.Test.YthhfjagnmhhapaaA09
import Derived.Test.YthhfjagnmhhapaaA10
import Derived.Test.YthhfjagnmhhapaaA11
import Derived.Test.YthhfjagnmhhapaaA13
import Derived.Test.YthhfjagnmhhapaaA16
import Derived.Test.YthhfjagnmhhapaaA17
import Derived.Test.YthhfjagnmhhapaaA18

namespace Go.Proofs.Ythhfjagnmhhapaa
open Go.W Go.PM Go.LM
set_option maxHeartbeats 1000000 in
theorem awakeS_spec (w : World) : CallsR Try.prog 21 #[] w fun v w' => v = .bool true ∧ Ex w w' := by
  refine callsR_of (args := []) Try.func21 rfl rfl ?_
  repeat' (first | (refine k_pure rfl ?_) | (refine then_normal ?_) | (refine cw_seq ?_) | (refine cw_region rfl ?_) | (refine rr_nil ?_))
  refine k_lit (cs := (intsL [1, 2, 0]).toArray) rfl (by kernel_rfl) (fun a1 wa1 ha1 => ⟨fun _ _ => trivial, ?_⟩)
  refine k_lit (cs := (intsL [1, 0, 2]).toArray) rfl (by kernel_rfl) (fun b1 wb1 hb1 => ⟨fun _ _ => trivial, ?_⟩)
  refine k_lit (cs := ([(⟨some ⟨a1, 0, none⟩, 3, 3⟩ : SD), ⟨some ⟨b1, 0, none⟩, 3, 3⟩].map SD.val).toArray) rfl (by kernel_rfl) (fun l1 wl1 hl1 => ⟨fun _ _ => trivial, ?_⟩)
  have hLs1 : Lists wl1 .i64 (some ⟨l1, 0, none⟩) [⟨some ⟨a1, 0, none⟩, 3, 3⟩, ⟨some ⟨b1, 0, none⟩, 3, 3⟩] ge3 := Lists.of hl1.blk.sl ⟨⟨((ha1.blk.ext hb1.ex).ext hl1.ex).sl, rfl⟩, ⟨(hb1.blk.ext hl1.ex).sl, rfl⟩, trivial⟩
  have hX0 : Ex w wl1 := (ha1.ex.trans hb1.ex).trans hl1.ex
  have he1 : errS 3 ge3 = 0 := by kernel_rfl
  repeat' (first | (refine k_pure rfl ?_) | (refine then_normal ?_) | (refine cw_seq ?_) | (refine cw_region rfl ?_) | (refine rr_nil ?_))
  refine k_call (sOrder_spec (n := 3) (cap := 2) hLs1 (by decide) (fun _ => by decide)) rfl ?_
  rintro v w2 ⟨z1, rfl, hE2, _, ho1⟩
  refine ⟨fun _ _ => trivial, ?_⟩
  obtain ⟨k1, hk1, hz1⟩ := ho1 he1
  have hkk1 : k1 = 6 := hk1.unique card3
  subst hkk1
  obtain ⟨cs1, rfl, hcl1, hco1⟩ := hz1.out
  rw [he1]
  repeat' (first | (refine k_pure rfl ?_))
  refine k_allocA (vs := intL false none 0 0) (fun g1 w3 hg1 => ⟨fun _ _ => trivial, ?_⟩)
  refine k_storeV (n := 2) rfl rfl hcl1 hco1 hg1.blk rfl (fun w4 hc4 hs4 => ⟨fun _ _ => trivial, ?_⟩)
  have hX4 : Ex wl1 w4 := (hE2.trans hg1.ex).chg hc4 (by have h1 := hg1.lo; have h2 := hE2.size; omega)
  have hq4 := (hz1.ext hg1.ex).chgO hc4 (hz1.off_hi hg1.lo)
  repeat' (first | (refine k_pure rfl ?_) | (refine then_normal ?_) | (refine cw_seq ?_) | (refine cw_region rfl ?_) | (refine rr_nil ?_))
  refine k_lit (cs := (intsL [0, 1]).toArray) rfl (by kernel_rfl) (fun c5 w5 hn5 => ⟨fun _ _ => trivial, ?_⟩)
  refine k_call (sLengths_spec (n := 3) (base := [0, 1]) (bc := 2) (cap := 2) (hLs1.ext (hX4.trans hn5.ex)) (by decide) (fun _ => by decide) hn5.blk.sl (by decide)) rfl ?_
  have he5 : errL 3 ge3 [0, 1] = 0 := by kernel_rfl
  rintro v w6 ⟨hE6, r6, c6, L6, rfl, hO6, _, hL6⟩
  refine ⟨fun _ _ => trivial, ?_⟩
  have hL6e := len3 (hL6 he5)
  subst hL6e
  rw [he5]
  repeat' (first | (refine k_pure rfl ?_) | (refine then_normal ?_) | (refine cw_seq ?_) | (refine cw_region rfl ?_) | (refine rr_nil ?_))
  refine k_lit (cs := (intsL [1, 2, 3, 0]).toArray) rfl (by kernel_rfl) (fun a7 w7 hn7 => ⟨fun _ _ => trivial, ?_⟩)
  refine k_lit1 (v := .slice (some ⟨a7, 0, none⟩) 4 4) rfl rfl (fun b7 w8 hn8 => ⟨fun _ _ => trivial, ?_⟩)
  refine k_lit (cs := (intsL [2, 3, 0, 1]).toArray) rfl (by kernel_rfl) (fun c7 w9 hn9 => ⟨fun _ _ => trivial, ?_⟩)
  have hLs9 : Lists w9 .i64 (some ⟨b7, 0, none⟩) [⟨some ⟨a7, 0, none⟩, 4, 4⟩] ge4 := Lists.of (hn8.blk.ext hn9.ex).sl ⟨⟨((hn7.blk.ext hn8.ex).ext hn9.ex).sl, rfl⟩, trivial⟩
  refine k_call (sContains_spec (n := 4) (p := [2, 3, 0, 1]) (bc := 4) (cap := 1) hLs9 (by decide) (fun _ => by decide) hn9.blk.sl) rfl ?_
  rintro v w10 ⟨hE10, t10, rfl, ht10⟩
  have he10 : errC 4 ge4 [2, 3, 0, 1] = 0 := by kernel_rfl
  obtain rfl : t10 = true := ht10.2 ⟨he10, in4⟩
  refine ⟨fun _ _ => trivial, ?_⟩
  rw [he10]
  repeat' (first | (refine k_pure rfl ?_) | (refine then_normal ?_) | (refine cw_seq ?_) | (refine cw_region rfl ?_) | (refine rr_nil ?_))
  refine k_lit (cs := (intsL [1, 2, 3, 0]).toArray) rfl (by kernel_rfl) (fun a11 w11 hn11 => ⟨fun _ _ => trivial, ?_⟩)
  refine k_lit1 (v := .slice (some ⟨a11, 0, none⟩) 4 4) rfl rfl (fun b11 w12 hn12 => ⟨fun _ _ => trivial, ?_⟩)
  refine k_lit (cs := (intsL [1, 0, 2, 3]).toArray) rfl (by kernel_rfl) (fun c11 w13 hn13 => ⟨fun _ _ => trivial, ?_⟩)
  have hLs13 : Lists w13 .i64 (some ⟨b11, 0, none⟩) [⟨some ⟨a11, 0, none⟩, 4, 4⟩] ge4 := Lists.of (hn12.blk.ext hn13.ex).sl ⟨⟨((hn11.blk.ext hn12.ex).ext hn13.ex).sl, rfl⟩, trivial⟩
  refine k_call (sContains_spec (n := 4) (p := [1, 0, 2, 3]) (bc := 4) (cap := 1) hLs13 (by decide) (fun _ => by decide) hn13.blk.sl) rfl ?_
  rintro v w14 ⟨hE14, t14, rfl, ht14⟩
  have he14 : errC 4 ge4 [1, 0, 2, 3] = 0 := by kernel_rfl
  obtain rfl : t14 = false := by cases t14 with | false => rfl | true => exact absurd (ht14.1 rfl).2 out4
  refine ⟨fun _ _ => trivial, ?_⟩
  rw [he14]
  repeat' (first | (refine k_pure rfl ?_) | (refine then_normal ?_) | (refine cw_seq ?_) | (refine rr_nil ?_))
  have hX6 : Ex w4 w6 := hn5.ex.trans hE6
  have hX14 : Ex w6 w14 := ((((((hn7.ex.trans hn8.ex).trans hn9.ex).trans hE10).trans hn11.ex).trans hn12.ex).trans hn13.ex).trans hE14
  have hB := (hs4.ext hX6).ext hX14
  have hQ := (hq4.ext hX6).ext hX14
  have hO := hO6.sl.ext hX14
  have hEx : Ex w14 w14.drew := (Ex.refl w14).drew
  refine cw_tree (fun w' => Ex w14 w') mixed hEx ?_
  refine rb_pre (fuel := 16) (by kernel_rfl) (by kernel_rfl) [0, 1, 2, 3, 4, 5, 6, 7, 8, 9, 10, 11, 12, 13, 14, 15] _ _ (by kernel_rfl) ?_
  repeat' (first | (refine k_loadCA rfl (fun _ h => hB.ext h) hcl1 ?_) | (refine k_pure rfl ?_) | (refine rr_nil ?_) | (refine g_run rfl rfl ?_))
  refine rb_all (fuel := 15) (rs := [16]) (by kernel_rfl) (by kernel_rfl) rfl ?_
  rw [List.forall_mem_singleton]
  refine g_run rfl rfl ?_
  refine k_call (refSmall_spec (z := 6) (by decide) (by decide) _) rfl ?_
  rintro v16 w16 ⟨hm16, hE16⟩
  refine ⟨fun _ h => h.trans hE16, ?_⟩
  replace hEx := hEx.trans hE16
  refine rr_nil ?_
  refine rb_all (fuel := 14) (rs := [17]) (by kernel_rfl) (by kernel_rfl) rfl ?_
  rw [List.forall_mem_singleton]
  refine g_run rfl rfl ?_
  refine k_call (refSame_spec (hQ.ext hEx) hm16) rfl ?_
  rintro v w17 ⟨rfl, hE17⟩
  refine ⟨fun _ h => h.trans hE17, ?_⟩
  replace hEx := hEx.trans hE17
  rw [decide_eq_true (p := (((6 : Nat) : Int) = 6)) rfl]
  refine rr_nil ?_
  refine rb_pre (fuel := 11) (by kernel_rfl) (by kernel_rfl) [18, 19, 20] _ _ (by kernel_rfl) ?_
  repeat' (first | (refine k_pure rfl ?_) | (refine rr_nil ?_) | (refine g_run rfl rfl ?_))
  refine rb_all (fuel := 10) (rs := [21]) (by kernel_rfl) (by kernel_rfl) rfl ?_
  rw [List.forall_mem_singleton]
  refine g_run rfl rfl ?_
  refine k_lit (cs := (intsL [3, 2]).toArray) rfl (by kernel_rfl) (fun g21 w21 hn21 => ⟨fun _ h => h.trans hn21.ex, ?_⟩)
  replace hEx := hEx.trans hn21.ex
  refine rr_nil ?_
  refine rb_all (fuel := 9) (rs := [22]) (by kernel_rfl) (by kernel_rfl) rfl ?_
  rw [List.forall_mem_singleton]
  refine g_run rfl rfl ?_
  refine k_call (same_spec (xs := [3, 2]) (ys := [3, 2]) (hO.ext hEx) hn21.blk.sl _ _ (by decide)) rfl ?_
  rintro v w22 ⟨rfl, hE22⟩
  refine ⟨fun _ h => h.trans hE22, ?_⟩
  replace hEx := hEx.trans hE22
  rw [decide_eq_true (p := ([3, 2] : List Int) = [3, 2]) rfl]
  refine rr_nil ?_
  refine rb_pre (fuel := 0) (by kernel_rfl) (by kernel_rfl) [23, 24, 25, 26, 27, 28, 29, 30, 31] _ _ (by kernel_rfl) ?_
  repeat' (first | (refine k_pure rfl ?_) | (refine rr_nil ?_) | (refine g_run rfl rfl ?_))
  refine rb_done (by kernel_rfl) ?_
  repeat' (first | (refine then_normal ?_) | (refine cw_ret ?_))
  exact ret1 rfl (rt rfl) ⟨rfl, (((hX0.trans hX4).trans hX6).trans hX14).trans hEx⟩
end Go.Proofs.Ythhfjagnmhhapaa

/- Chains of the reference: levels are made anew with one more generator. Plain laws. -/
namespace Go.PM
structure LvRe (n : Nat) (g : List Int) (l l' : Lv) : Prop where
  ok : LvOK n l'
  pt : l'.pt = l.pt
  gens : l'.gens = l.gens ++ [g]
  new : ∀ a, l'.done.getD a 0 = 0
inductive InsR (n : Nat) (p : List Int) : Nat → List Lv → List Lv → Prop
  | new {l' : Lv} (h : LvNew n p l') : InsR n p 0 [] [l']
  | last {l l' : Lv} {ls : List Lv} (h : LvRe n p l l') : InsR n p 0 (l :: ls) (l' :: ls)
  | cons {k : Nat} {l l' : Lv} {ls ls' : List Lv} (h : LvRe n p l l') (hr : InsR n p k ls ls') : InsR n p (k + 1) (l :: ls) (l' :: ls')
theorem LvRe.sub {n : Nat} {g : List Int} {l l' : Lv} (h : LvRe n g l l') {p : List Int} (hp : Gen n l.gens p) : Gen n l'.gens p := gen_mono (fun q hq => by rw [h.gens]; simp [hq]) hp
theorem LvRe.doneOK {n : Nat} {g : List Int} {l l' : Lv} {ls' : List Lv} (h : LvRe n g l l') : DoneOK n l' ls' := fun a _ => by rw [h.new a]; exact ⟨Nat.zero_le _, fun k hk => absurd hk (by omega)⟩
theorem LvRe.le {n : Nat} {g : List Int} {l l' : Lv} (h : LvRe n g l l') (hl : LvOK n l) : l.orb.length ≤ l'.orb.length := nodup_le hl.nd fun y hy => by
  rw [h.ok.mem', h.pt]; obtain ⟨q, hq, e⟩ := (hl.mem' y).1 hy; exact ⟨q, h.sub hq, e⟩
theorem insR_drop {n : Nat} {p : List Int} {k : Nat} {ls ls' : List Lv} (hi : InsR n p k ls ls') : ls'.drop (k + 1) = ls.drop (k + 1) := by
  induction hi with
  | new h => rfl
  | last h => rfl
  | cons h hr ih => simpa using ih
theorem insR_len {n : Nat} {p : List Int} {k : Nat} {ls ls' : List Lv} (hi : InsR n p k ls ls') : k < ls'.length ∧ ls'.length = if k < ls.length then ls.length else ls.length + 1 := by
  induction hi with
  | new h => simp
  | last h => simp
  | cons h hr ih =>
    simp only [List.length_cons]
    refine ⟨by omega, ?_⟩
    rw [ih.2]
    split <;> split <;> omega
theorem insR_case {n : Nat} {p : List Int} {d : Lv} {k : Nat} {ls ls' : List Lv} (hi : InsR n p k ls ls') : ∀ j, j < ls'.length →
    (j < ls.length ∧ LvRe n p (ls.getD j d) (ls'.getD j d)) ∨ (j < ls.length ∧ ls'.getD j d = ls.getD j d) ∨ (j = ls.length ∧ LvNew n p (ls'.getD j d)) := by
  induction hi with
  | new h => intro j hj; simp at hj; subst hj; exact .inr (.inr ⟨rfl, h⟩)
  | last h =>
    intro j hj
    cases j with
    | zero => exact .inl ⟨by simp, h⟩
    | succ j => exact .inr (.inl ⟨by simpa using hj, rfl⟩)
  | cons h hr ih =>
    intro j hj
    cases j with
    | zero => exact .inl ⟨by simp, h⟩
    | succ j =>
      rcases ih j (by simpa using hj) with ⟨h1, h2⟩ | ⟨h1, h2⟩ | ⟨h1, h2⟩
      · exact .inl ⟨by simpa using h1, h2⟩
      · exact .inr (.inl ⟨by simpa using h1, h2⟩)
      · exact .inr (.inr ⟨by simpa using h1, h2⟩)
theorem insR_links {n : Nat} {p : List Int} {k : Nat} {ls ls' : List Lv} (hi : InsR n p k ls ls') : Links n ls → PermN n p → FixTo ls k p →
    Links n ls' ∧ (∀ q, grpOf n ls q → grpOf n ls' q) ∧ grpOf n ls' p ∧ ∀ H : List Int → Prop, Grp n H → (∀ q, grpOf n ls q → H q) → H p → ∀ q, grpOf n ls' q → H q := by
  induction hi with
  | new h =>
    intro h1 hp _
    rename_i l'
    refine ⟨⟨h.ok, ?_, ?_, h1⟩, ?_, ?_, ?_⟩
    · rintro q rfl; exact ⟨.one, ap_id h.ok.pt⟩
    · intro a _; rw [h.new a]; exact ⟨Nat.zero_le _, fun k hk => absurd hk (by omega)⟩
    · rintro q rfl; exact .one
    · exact gen_self h.ok.gens (by rw [h.gens]; simp)
    · intro H hH _ hHp q hq; exact gen_le hH (by rw [h.gens]; simpa using hHp) hq
  | last h =>
    intro h1 hp hf
    rename_i l l' ls
    refine ⟨⟨h.ok, ?_, h.doneOK, h1.tail⟩, fun q hq => h.sub hq, gen_self h.ok.gens (by rw [h.gens]; simp), ?_⟩
    · intro q hq; rw [h.pt]; exact ⟨h.sub (h1.2.1 q hq).1, (h1.2.1 q hq).2⟩
    · intro H hH hs hHp q hq
      refine gen_le hH (fun g hg => ?_) hq
      rw [h.gens, List.mem_append] at hg
      rcases hg with hg | hg
      · exact hs _ (gen_self h1.1.gens hg)
      · simp only [List.mem_singleton] at hg; rw [hg]; exact hHp
  | cons h hr ih =>
    intro h1 hp hf
    rename_i k l l' ls ls'
    obtain ⟨i1, i2, i3, i4⟩ := ih h1.tail hp (fun j hj l'' hl'' => hf (j + 1) (by omega) l'' (by simpa using hl''))
    have hfp : ap p l.pt = l.pt := hf 0 (by omega) l (by simp)
    refine ⟨⟨h.ok, ?_, h.doneOK, i1⟩, fun q hq => h.sub hq, gen_self h.ok.gens (by rw [h.gens]; simp), ?_⟩
    · have := i4 (Stab (Gen n l'.gens) l'.pt) (stab_grp h.ok.grp h.ok.pt) (fun q hq => by rw [h.pt]; exact ⟨h.sub (h1.2.1 q hq).1, (h1.2.1 q hq).2⟩)
        ⟨gen_self h.ok.gens (by rw [h.gens]; simp), by rw [h.pt]; exact hfp⟩
      exact this
    · intro H hH hs hHp q hq
      refine gen_le hH (fun g hg => ?_) hq
      rw [h.gens, List.mem_append] at hg
      rcases hg with hg | hg
      · exact hs _ (gen_self h1.1.gens hg)
      · simp only [List.mem_singleton] at hg; rw [hg]; exact hHp
theorem LvNew.two {n : Nat} {p : List Int} {l' : Lv} (h : LvNew n p l') : 2 ≤ l'.orb.length := by
  have hm : ap p l'.pt ∈ l'.orb := (h.ok.mem' _).2 ⟨p, gen_self h.ok.gens (by rw [h.gens]; simp), rfl⟩
  exact nodup_le (l := [ap p l'.pt, l'.pt]) (m := l'.orb) (by simp [h.pt]) (by simp [hm, h.ok.pt_mem])
theorem insR_prod {n : Nat} {p : List Int} {k : Nat} {ls ls' : List Lv} (hi : InsR n p k ls ls') : Links n ls → (∀ l, ls[k]? = some l → ap p l.pt ∉ l.orb) → prodL ls < prodL ls' := by
  induction hi with
  | @new l' h =>
    intro _ _
    have h1 := h.two
    simp only [prodL]; omega
  | last h =>
    intro h1 hne
    rename_i l l' ls
    have hne := hne l (by simp)
    have hm : ap p l.pt ∈ l'.orb := by rw [← h.pt]; exact (h.ok.mem' _).2 ⟨p, gen_self h.ok.gens (by rw [h.gens]; simp), rfl⟩
    have hlt : l.orb.length < l'.orb.length := by
      refine nodup_le (l := ap p l.pt :: l.orb) (m := l'.orb) (List.nodup_cons.2 ⟨hne, h1.1.nd⟩) (fun y hy => ?_)
      rcases List.mem_cons.1 hy with rfl | hy
      · exact hm
      · rw [h.ok.mem', h.pt]; obtain ⟨q, hq, e⟩ := (h1.1.mem' y).1 hy; exact ⟨q, h.sub hq, e⟩
    exact Nat.mul_lt_mul_of_pos_right hlt (prodL_pos h1.tail)
  | cons h hr ih =>
    intro h1 hne
    rename_i k l l' ls ls'
    have := ih h1.tail (fun l'' hl'' => hne l'' (by simpa using hl''))
    simp only [prodL]
    exact Nat.lt_of_lt_of_le (Nat.mul_lt_mul_of_pos_left this h1.1.pos) (Nat.mul_le_mul_right _ (h.le h1.1))
/-- levels behind level i grow by the remainder r -/
theorem insR_at {n : Nat} {r : List Int} {d : Nat} : ∀ (i : Nat) (ls ls' : List Lv) (l : Lv), ls[i]? = some l → Links n ls → ls'.take (i + 1) = ls.take (i + 1) → InsR n r d (ls.drop (i + 1)) (ls'.drop (i + 1)) → PermN n r → FixTo (ls.drop (i + 1)) d r →
    (∀ l, (ls.drop (i + 1))[d]? = some l → ap r l.pt ∉ l.orb) → Gen n l.gens r → ap r l.pt = l.pt → Links n ls' ∧ prodL ls < prodL ls'
  | _, [], _, l, h, _, _, _, _, _, _, _, _ => by simp at h
  | _, _ :: _, [], _, _, _, h, _, _, _, _, _, _ => by simp at h
  | 0, l :: ls, l' :: ls', l0, h0, hL, ht, hi, pr, hf, ho, hg, hp => by
    simp at h0 ht
    subst h0
    subst ht
    simp only [Nat.zero_add, List.drop_succ_cons, List.drop_zero] at hi hf ho
    obtain ⟨h1, h2, h3, h4⟩ := insR_links hi hL.tail pr hf
    have hpr := insR_prod hi hL.tail ho
    refine ⟨⟨hL.1, fun p hp' => ?_, fun a ha => ?_, h1⟩, ?_⟩
    · exact h4 (Stab (Gen n l'.gens) l'.pt) (stab_grp hL.1.grp hL.1.pt) (fun q hq => hL.2.1 q hq) ⟨hg, hp⟩ p hp'
    · have := hL.2.2.1 a ha
      exact ⟨this.1, fun k hk => h2 _ (this.2 k hk)⟩
    · exact Nat.mul_lt_mul_of_pos_left hpr hL.1.pos
  | i + 1, l :: ls, l' :: ls', l0, h0, hL, ht, hi, pr, hf, ho, hg, hp => by
    simp only [List.getElem?_cons_succ] at h0
    simp only [List.take_succ_cons, List.cons.injEq] at ht
    obtain ⟨rfl, ht⟩ := ht
    simp only [List.drop_succ_cons] at hi hf ho
    obtain ⟨h1, h2⟩ := insR_at i ls ls' l0 h0 hL.tail ht hi pr hf ho hg hp
    have hpos : 0 < ls.length := by have := (List.getElem?_eq_some_iff.1 h0).1; omega
    have e : grpOf n ls' = grpOf n ls := by
      refine grp_head hpos ?_
      have := congrArg (List.take 1) ht
      rw [List.take_take, List.take_take] at this
      simpa [Nat.min_eq_left (show 1 ≤ i + 1 by omega)] using this
    refine ⟨⟨hL.1, fun p hp' => hL.2.1 p (by rw [← e]; exact hp'), fun a ha => ?_, h1⟩, Nat.mul_lt_mul_of_pos_left h2 hL.1.pos⟩
    have := hL.2.2.1 a ha
    exact ⟨this.1, fun k hk => by rw [e]; exact this.2 k hk⟩
theorem siftL_perm {n : Nat} : ∀ {ls : List Lv}, (∀ l ∈ ls, LvOK n l) → ∀ {p : List Int}, PermN n p → PermN n (siftL ls p).1
  | [], _, _, hp => hp
  | l :: ls, h, p, hp => by
    rw [siftL]
    split
    · rename_i hm
      have ok := h l (by simp)
      exact siftL_perm (fun l' hl' => h l' (by simp [hl'])) (hp.mul (ok.grp.perm _ (ok.to_in hm)))
    · exact hp
end Go.PM

/- Memory of the reference's chains: slices compared with nil, rows of three cells. -/
namespace Go.W
section
variable {P : Program} {S : World → Prop} {ops : List Oper} {K : Env → World → Prop} {rest : List (Oper × Option Bool)} {ρ : Env} {w : World} {b : Option Bool} {kf : Bool} {d : Nat} {T T' : TypeId} {pos : String} {af : Array Edge}
theorem run_equalIn_nil {T0 E : TypeId} (h : P.underlying T0 = some (.slice E)) (n : Nat) (a : Option Addr) (l c : Nat) (w : World) : (Op.equalIn (n + 1) T0 (.slice a l c) (.slice none 0 0)).run P w = .ok a.isNone w := by
  cases a <;> simp [Op.equalIn, run_underlying h]
theorem run_equal_nil {T0 E : TypeId} (h : P.underlying T0 = some (.slice E)) (a : Option Addr) (l c : Nat) (w : World) : (Op.equal T0 (.slice a l c) (.slice none 0 0)).run P w = .ok a.isNone w := by
  unfold Op.equal
  exact run_equalIn_nil h 9999 a l c w
theorem k_eqNil {x y : Operand} {a : Option Addr} {l c E s z : Nat} {T'' : TypeId} [h1 : Slc P T' E s z] (hx : ev ρ x = .slice a l c) (hy : ev ρ y = .slice none 0 0) (h : RR P S ops K rest (upd ρ d (.bool a.isNone)) w) : RR P S ops K ((⟨some d, .binOp .eql T' x y T'', T, pos, af, none⟩, b) :: rest) ρ w :=
  rr_pure rfl (fun w' => by
    simp only [execOp, hx, hy]
    rw [Sem.run_bind_ok (v := .bool a.isNone) (w' := w')]
    · rfl
    · rw [Sem.run_bind_ok (run_eqGuard_slice w')]
      show (do pure (Value.bool (← Op.equal T' (.slice a l c) (.slice none 0 0))) : Sem Value).run P w' = _
      rw [Sem.run_bind_ok (run_equal_nil h1.un a l c w')]; rfl) h
theorem k_neqNil {x y : Operand} {a : Option Addr} {l c E s z : Nat} {T'' : TypeId} [h1 : Slc P T' E s z] (hx : ev ρ x = .slice a l c) (hy : ev ρ y = .slice none 0 0) (h : RR P S ops K rest (upd ρ d (.bool (!a.isNone))) w) : RR P S ops K ((⟨some d, .binOp .neq T' x y T'', T, pos, af, none⟩, b) :: rest) ρ w :=
  rr_pure rfl (fun w' => by
    simp only [execOp, hx, hy]
    rw [Sem.run_bind_ok (v := .bool (!a.isNone)) (w' := w')]
    · rfl
    · rw [Sem.run_bind_ok (run_eqGuard_slice w')]
      show (do pure (Value.bool (!(← Op.equal T' (.slice a l c) (.slice none 0 0)))) : Sem Value).run P w' = _
      rw [Sem.run_bind_ok (run_equal_nil h1.un a l c w')]; rfl) h
theorem k_leqF {x y : Operand} {k : IntKind} {m m' : Int} {T'' : TypeId} (hx : ev ρ x = .int k m) (hy : ev ρ y = .int k m') (hd : m' < m) (h : RR P S ops K rest (upd ρ d (.bool false)) w) : RR P S ops K ((⟨some d, .binOp .leq T' x y T'', T, pos, af, none⟩, b) :: rest) ρ w :=
  k_leq hx hy (by rw [decide_eq_false (by omega)]; exact h)
theorem k_geqT {x y : Operand} {k : IntKind} {m m' : Int} {T'' : TypeId} (hx : ev ρ x = .int k m) (hy : ev ρ y = .int k m') (hd : m' ≤ m) (h : RR P S ops K rest (upd ρ d (.bool true)) w) : RR P S ops K ((⟨some d, .binOp .geq T' x y T'', T, pos, af, none⟩, b) :: rest) ρ w :=
  k_geq hx hy (by rw [decide_eq_true (by omega)]; exact h)
theorem k_index3 {x ix : Operand} {a : Option Addr} {l c E y j : Nat} {k : IntKind} [hT : Slc P T' E 3 y] (hx : ev ρ x = .slice a l c) (hi : ev ρ ix = .int k (j : Int)) (ha : W.plain a)
    (h2 : j < l) (h : RR P S ops K rest (upd ρ d (.pointer (some (elt a (j * 3))))) w) :
    RR P S ops K ((⟨some d, .indexAddr T' x ix, T, pos, af, none⟩, b) :: rest) ρ w :=
  k_indexAddr hx hi ha (by omega) (by omega) (by simpa using h)
/-- a row of three cells is read -/
theorem k_loadR3 {x : Operand} {T1 : TypeId} {g o j : Nat} {vs cs : List Value} [Agg P T1 3] (hx : ev ρ x = .pointer (some (elt (some ⟨g, o, none⟩) (j * 3)))) (hl : cs.length = 3) (hs : Rd b S w fun w' => Sl w' (some ⟨g, o, none⟩) vs)
    (hc : ∀ k, k < 3 → vs[j * 3 + k]? = cs[k]?) (h : RR P S ops K rest (upd ρ d (.agg cs.toArray)) w) : RR P S ops K ((⟨some d, .load T1 x, T, pos, af, none⟩, b) :: rest) ρ w :=
  k_loadA (g := g) (o := o + j * 3) hx hl (hs.imp fun w' hs k hk => by
    have h1 := hc k (by omega)
    have h2 : j * 3 + k < vs.length := by
      rcases Nat.lt_or_ge (j * 3 + k) vs.length with h | h
      · exact h
      · rw [List.getElem?_eq_none h, List.getElem?_eq_getElem hk] at h1; cases h1
    have h3 := hs.get (j * 3 + k) h2
    rw [List.getD_eq_getElem?_getD, h1, ← List.getD_eq_getElem?_getD] at h3
    simpa [elt, Nat.add_assoc] using h3) h
/-- a row of three cells is stored into a slice of one's own -/
theorem k_storeOwn3 {x y : Operand} {T1 : TypeId} {lo T0 n cap j : Nat} {a : Option Addr} {vs cs : List Value} [hT : Agg P T1 3] (hx : ev ρ x = .pointer (some (elt a (j * 3)))) (hy : ev ρ y = .agg cs.toArray) (hl : cs.length = 3) (ho : cs.all Value.oneCell' = true)
    (hown : Own w lo T0 3 a n cap vs) (hj : j < n)
    (h : ∀ g w', a = some ⟨g, 0, none⟩ → lo ≤ g → Chg g w w' → Own w' lo T0 3 a n cap (vs.take (j * 3) ++ cs ++ vs.drop (j * 3 + 3)) → (kf = true → S w → S w') ∧ RR P S ops K rest ρ w') :
    RR P S ops K ((⟨none, .store T1 x y, T, pos, af, none⟩, some kf) :: rest) ρ w := by
  have hlen := hown.len
  rcases hown.2 with ⟨hv', hn⟩ | ⟨g, c, cur, hv', hg, hb, h1, h2, h3, h4⟩
  · omega
  · simp only [Value.slice.injEq] at hv'
    obtain ⟨rfl, _, rfl⟩ := hv'
    have hb' : Blk w g T0 cur.toList := by unfold Blk; simpa using hb
    have hcl : cur.toList.length = cap * 3 := by simpa using h3
    refine k_storeA (g := g) (o := j * 3) (by rw [hx]; simp [elt]) hy hl ho hb' (by omega) (fun w' hc hb2 => h g w' rfl hg hc ⟨?_, .inr ⟨g, cap, _, rfl, hg, hb2, h1, h2, ?_, ?_⟩⟩)
    · simp; omega
    · simp; omega
    · rw [← h4]
      simp only [List.take_append, List.take_take, List.length_append, List.length_take, List.drop_take, hl, hcl]
      rw [show min (n * 3) (j * 3) = j * 3 by omega, show min (j * 3) (n * 3) = j * 3 by omega, show min (j * 3) (cap * 3) = j * 3 by omega]
      rw [List.take_of_length_le (l := cs) (by omega)]
end
end Go.W
namespace Go.PM
theorem inv_mulP {n : Nat} {p q : List Int} (hp : PermN n p) (hq : PermN n q) : inv (mulP p q) = mulP (inv q) (inv p) := by
  refine (eq_inv (hp.mul hq) (hq.inv.mul hp.inv) ?_).symm
  rw [mul_assoc hp hq, ← mul_assoc hq hq.inv, mul_inv hq, one_mul hp.inv, mul_inv hp]
theorem add_to_old {l : Lv} {y z : Int} {b : List Int} (hl : l.back.length = l.orb.length) (hz : z ∈ l.orb) : (l.add y b).to z = l.to z := by
  have h1 := idxOf_lt hz
  unfold Lv.to Lv.bk Lv.add
  simp only
  rw [List.idxOf_append, if_pos hz, List.getD_eq_getElem?_getD, List.getElem?_append_left (by omega), ← List.getD_eq_getElem?_getD]
theorem add_to_new {l : Lv} {y : Int} {b : List Int} (hl : l.back.length = l.orb.length) (hy : y ∉ l.orb) : (l.add y b).to y = b := by
  unfold Lv.to Lv.bk Lv.add
  simp only
  rw [List.idxOf_append, if_neg hy, List.getD_eq_getElem?_getD]
  simp [hl]
/-- how many points up to k lie in the orbit -/
def cntTo (orb : List Int) : Nat → Nat
  | 0 => 0
  | k + 1 => cntTo orb k + (if (k : Int) ∈ orb then 1 else 0)
theorem cntTo_le (orb : List Int) : ∀ k, cntTo orb k ≤ k
  | 0 => Nat.le_refl _
  | k + 1 => by have := cntTo_le orb k; rw [cntTo]; split <;> omega
theorem cntTo_eq {orb : List Int} : ∀ (n : Nat), orb.Nodup → (∀ y ∈ orb, 0 ≤ y ∧ y < n) → cntTo orb n = orb.length := by
  intro n
  induction n generalizing orb with
  | zero =>
    intro _ h
    cases orb with
    | nil => rfl
    | cons x l => have := h x (by simp); omega
  | succ n ih =>
    intro hn h
    rw [cntTo]
    by_cases hm : (n : Int) ∈ orb
    · rw [if_pos hm]
      have e : cntTo orb n = cntTo (orb.erase (n : Int)) n := by
        have : ∀ k, k ≤ n → cntTo orb k = cntTo (orb.erase (n : Int)) k := by
          intro k
          induction k with
          | zero => intro _; rfl
          | succ k ihk =>
            intro hk
            rw [cntTo, cntTo, ihk (by omega)]
            have : ((k : Int) ∈ orb.erase (n : Int)) ↔ (k : Int) ∈ orb := List.mem_erase_of_ne (by omega)
            simp only [this]
        exact this n (Nat.le_refl _)
      rw [e, ih (hn.erase _) (fun y hy => ?_), List.length_erase_of_mem hm]
      · have : 0 < orb.length := List.length_pos_of_mem hm
        omega
      · have h1 := h y (List.mem_of_mem_erase hy)
        have h2 : y ≠ (n : Int) := (hn.mem_erase_iff.1 hy).1
        omega
    · rw [if_neg hm]
      exact ih hn (fun y hy => by
        have h1 := h y hy
        have h2 : y ≠ (n : Int) := fun e => hm (e ▸ hy)
        omega)
end Go.PM
namespace Go.Proofs.Ythhfjagnmhhapaa
open Go.W Go.PM
/-- where a level of the reference lies -/
structure RH where
  ga : Option Addr
  gs : List SD
  gc : Nat
  ma : Option Addr
  ms : List SD
  mc : Nat
abbrev RH.cells (h : RH) (pt : Int) : List Value := [.int .i64 pt, .slice h.ga h.gs.length h.gc, .slice h.ma h.ms.length h.mc]
/-- the maps of a level: for each point y of the orbit an element that takes the level's point to y -/
structure MpAt (w : World) (n : Nat) (l : Lv) (ms : List SD) : Prop where
  len : ms.length = n
  inn : ∀ y : Nat, (y : Int) ∈ l.orb → ∃ g c, ms.getD y sd0 = ⟨some ⟨g, 0, none⟩, n, c⟩ ∧ Sl w (some ⟨g, 0, none⟩) (intsL (inv (l.to (y : Int))))
  out : ∀ y : Nat, y < n → (y : Int) ∉ l.orb → ms.getD y sd0 = sd0
theorem MpAt.ext {w w' : World} {n : Nat} {l : Lv} {ms : List SD} (h : MpAt w n l ms) (e : Ex w w') : MpAt w' n l ms :=
  ⟨h.len, fun y hy => by obtain ⟨g, c, h1, h2⟩ := h.inn y hy; exact ⟨g, c, h1, h2.ext e⟩, h.out⟩
structure RL (w : World) (n : Nat) (h : RH) (l : Lv) : Prop where
  gs : Lists w .i64 h.ga h.gs l.gens
  ma : Sl w h.ma (h.ms.map SD.val)
  mp : MpAt w n l h.ms
theorem RL.ext {w w' : World} {n : Nat} {h : RH} {l : Lv} (hL : RL w n h l) (e : Ex w w') : RL w' n h l := ⟨hL.gs.ext e, hL.ma.ext e, hL.mp.ext e⟩
abbrev RC := List (RH × Lv)
def rc0 : RH × Lv := (⟨none, [], 0, none, [], 0⟩, lv0)
def cellsL (L : RC) : List Value := L.flatMap fun x => x.1.cells x.2.pt
theorem cellsL_len : ∀ L : RC, (cellsL L).length = L.length * 3
  | [] => rfl
  | x :: L => by
    have := cellsL_len L
    unfold cellsL at this ⊢
    rw [List.flatMap_cons, List.length_append, this]; simp; omega
theorem cellsL_get : ∀ (L : RC) (j : Nat), j < L.length → ∀ k, k < 3 → (cellsL L)[j * 3 + k]? = ((L.getD j rc0).1.cells (L.getD j rc0).2.pt)[k]?
  | [], j, h, _, _ => absurd h (by simp)
  | x :: L, 0, _, k, hk => by
    unfold cellsL
    rw [List.flatMap_cons, List.getElem?_append_left (by simp; omega)]; simp
  | x :: L, j + 1, h, k, hk => by
    have := cellsL_get L j (by simpa using h) k hk
    unfold cellsL at this ⊢
    rw [List.flatMap_cons, List.getElem?_append_right (by simp; omega)]
    simp only [List.length_cons, List.length_nil]
    rw [show (j + 1) * 3 + k - (0 + 1 + 1 + 1) = j * 3 + k by omega, this]
    simp
theorem cellsL_set : ∀ (L : RC) (j : Nat) (x : RH × Lv), j < L.length → (cellsL L).take (j * 3) ++ x.1.cells x.2.pt ++ (cellsL L).drop (j * 3 + 3) = cellsL (L.set j x)
  | [], j, _, h => absurd h (by simp)
  | y :: L, 0, x, _ => by simp [cellsL]
  | y :: L, j + 1, x, h => by
    have := cellsL_set L j x (by simpa using h)
    rw [List.set_cons_succ]
    unfold cellsL at this ⊢
    rw [List.flatMap_cons, List.flatMap_cons, ← this]
    rw [List.take_append, List.drop_append]
    simp only [List.length_cons, List.length_nil]
    rw [List.take_of_length_le (by simp; omega), List.drop_eq_nil_of_le (by simp <;> omega)]
    rw [show (j + 1) * 3 - (0 + 1 + 1 + 1) = j * 3 by omega, show (j + 1) * 3 + 3 - (0 + 1 + 1 + 1) = j * 3 + 3 by omega]
    simp
theorem cellsL_snoc (L : RC) (x : RH × Lv) : cellsL (L ++ [x]) = cellsL L ++ x.1.cells x.2.pt := by unfold cellsL; simp
/-- the levels of a chain -/
abbrev lvsOf (L : RC) : List Lv := L.map Prod.snd
theorem lvsOf_getD (L : RC) (j : Nat) : (lvsOf L).getD j lv0 = (L.getD j rc0).2 := by
  rw [List.getD_eq_getElem?_getD, List.getElem?_map, List.getD_eq_getElem?_getD]
  cases L[j]? <;> rfl
def RCs (w : World) (n : Nat) (L : RC) : Prop := ∀ j, j < L.length → RL w n (L.getD j rc0).1 (L.getD j rc0).2
theorem RCs.ext {w w' : World} {n : Nat} {L : RC} (h : RCs w n L) (e : Ex w w') : RCs w' n L := fun j hj => (h j hj).ext e
theorem cell3 {w : World} {g o : Nat} {L : RC} (h : Sl w (some ⟨g, o, none⟩) (cellsL L)) {j : Nat} (hj : j < L.length) :
    w.cell? ⟨g, o + j * 3 + 0, none⟩ = some (.int .i64 (L.getD j rc0).2.pt) ∧ w.cell? ⟨g, o + j * 3 + 1, none⟩ = some (.slice (L.getD j rc0).1.ga (L.getD j rc0).1.gs.length (L.getD j rc0).1.gc) ∧
    w.cell? ⟨g, o + j * 3 + 2, none⟩ = some (.slice (L.getD j rc0).1.ma (L.getD j rc0).1.ms.length (L.getD j rc0).1.mc) := by
  have key : ∀ k v, k < 3 → ((L.getD j rc0).1.cells (L.getD j rc0).2.pt)[k]? = some v → w.cell? ⟨g, o + j * 3 + k, none⟩ = some v := fun k v hk hv => by
    have h1 := cellsL_get L j hj k hk
    have h2 := h.get (j * 3 + k) (by rw [cellsL_len]; omega)
    rw [List.getD_eq_getElem?_getD, h1, hv] at h2
    simpa [elt, Nat.add_assoc] using h2
  exact ⟨key 0 _ (by omega) rfl, key 1 _ (by omega) rfl, key 2 _ (by omega) rfl⟩
end Go.Proofs.Ythhfjagnmhhapaa

namespace Go.Proofs.Ythhfjagnmhhapaa
open Go.W Go.PM
theorem refMoved_spec {xs : List Int} {a : Option Addr} {w : World} (hx : Sl w a (intsL xs)) (cap : Nat) (hl : xs.length ≤ 512) :
    CallsR Try.prog 92 #[.slice a xs.length cap] w (fun v w' => ∃ m, v = .int .i64 m ∧ Moved xs m ∧ Ex w w') := by
  refine callsR_of (args := [_]) Try.func92 rfl rfl ?_
  repeat' (first | (refine k_pure rfl ?_) | (refine then_normal ?_) | (refine cw_seq ?_) | (refine cw_region rfl ?_) | (refine rr_nil ?_) | (refine k_len rfl ?_) | (refine cw_block ?_))
  refine cw_loop (ι := Nat) [2, 3, 4, 7, 8, 9, 10, 11, 12, 13, 14, 15, 16] (fun s => [(7, .int .i64 (s : Int))]) (fun s w' => s ≤ xs.length ∧ Ex w w' ∧ xs.take s = idList s) (fun s => xs.length - s)
    0 ⟨rfl, trivial⟩ ⟨by simp, Ex.refl _, rfl⟩ ?_
  rintro k ξ w2 ⟨hk, hE, hT⟩
  show CW _ _ _ _ (over [(7, .int .i64 (k : Int))] _) w2
  have hx2 := hx.ext hE
  repeat' (first | (refine k_indexN rfl rfl (hx2.plain (by simp; omega)) (by omega) ?_) | (refine k_loadI rfl hx2 (by omega) ?_) | (refine k_pure rfl ?_) | (refine then_normal ?_) | (refine cw_seq ?_) | (refine cw_region rfl ?_) | (refine rr_nil ?_) | (refine k_addI rfl rfl (by omega) (by omega) ?_) | (refine cw_cond_dec rfl (fun hc => ?_) (fun hc => ?_)) | (refine cw_block ?_) | (refine cw_exit ?_) | (refine then_exit ?_) | (refine in_exit ?_) | (refine in_normal ?_) | (refine cw_ret ?_) | (refine then_ret ?_) | (refine in_ret ?_) | (refine cw_skip ?_))
  · exact ret1 rfl (rt rfl) ⟨_, rfl, .inr ⟨by omega, by omega, by unfold ap; rw [Int.toNat_natCast]; exact fun h => absurd h.symm (by assumption)⟩, hE⟩
  · refine ⟨⟨k + 1, ⟨by omega, hE, ?_⟩, by omega, rfl, trivial⟩, (by (repeat (first | exact agree_mask _ _ _ | refine agree_upd rfl ?_ | refine agree_updO rfl ?_ | refine agree_overIn rfl ?_ | refine agree_maskIn rfl ?_)))⟩
    have e : xs.getD k 0 = (k : Int) := by omega
    rw [take_succ_getD xs 0 (by omega), hT, idList_succ, e]
  · obtain rfl : k = xs.length := by omega
    rw [List.take_of_length_le (by omega)] at hT
    exact ret1 rfl (rt rfl) ⟨_, rfl, .inl ⟨rfl, hT⟩, hE⟩
theorem getD_setS {l : List SD} {y z : Nat} {s : SD} (h : y < l.length) : (l.set y s).getD z sd0 = if y = z then s else l.getD z sd0 := by
  rw [List.getD_eq_getElem?_getD, List.getElem?_set]
  by_cases e : y = z
  · subst e; simp [h]
  · rw [if_neg e, if_neg e, List.getD_eq_getElem?_getD]
theorem MpAt.add {w : World} {n : Nat} {l : Lv} {ms : List SD} (h : MpAt w n l ms) (hl : l.back.length = l.orb.length) {y : Nat} (hy : y < n) (hm : (y : Int) ∉ l.orb) {b : List Int} {pg pc : Nat} (hs : Sl w (some ⟨pg, 0, none⟩) (intsL (inv b))) :
    MpAt w n (l.add (y : Int) b) (ms.set y ⟨some ⟨pg, 0, none⟩, n, pc⟩) := by
  have hlen := h.len
  refine ⟨by simp [hlen], fun z hz => ?_, fun z hz hn => ?_⟩
  · rw [getD_setS (by omega)]
    by_cases e : y = z
    · subst e
      rw [if_pos rfl, add_to_new hl hm]
      exact ⟨pg, pc, rfl, hs⟩
    · have hz' : (z : Int) ∈ l.orb := by
        have hz2 : (z : Int) ∈ l.orb ++ [(y : Int)] := hz
        rw [List.mem_append, List.mem_singleton] at hz2
        rcases hz2 with h | h
        · exact h
        · omega
      rw [if_neg e, add_to_old hl hz']
      exact h.inn z hz'
  · have hn' : (z : Int) ∉ l.orb ++ [(y : Int)] := hn
    rw [List.mem_append, List.mem_singleton, not_or] at hn'
    rw [getD_setS (by omega), if_neg (by omega)]
    exact h.out z hz hn'.1
theorem MpAt.fr {w w' : World} {n x : Nat} {l : Lv} {ms : List SD} (h : MpAt w n l ms) (f : Fr (One x) w w') (hne : ∀ y g c, (y : Nat) < n → ((y : Nat) : Int) ∈ l.orb → ms.getD y sd0 = ⟨some ⟨g, 0, none⟩, n, c⟩ → g ≠ x) (hin : ∀ y ∈ l.orb, 0 ≤ y ∧ y < n) : MpAt w' n l ms :=
  ⟨h.len, fun y hy => by
    obtain ⟨g, c, h1, h2⟩ := h.inn y hy
    have := hin _ hy
    exact ⟨g, c, h1, h2.fr f (by rintro _ ⟨⟩; exact hne y g c (by omega) hy h1)⟩, h.out⟩
/-- what holds within the function level -/
structure LJ (w0 w : World) (n gr gm qb qc : Nat) (l : Lv) (ms : List SD) : Prop where
  ex : Ex w0 w
  res : Blk w gr 103 [.int .i64 0, .slice none 0 0, .slice none 0 0]
  mb : Blk w gm 28 (ms.map SD.val)
  mp : MpAt w n l ms
  q : Own w 0 3 1 (ba qb) l.orb.length qc (intsL l.orb)
  ne : ∀ y g c, (y : Nat) < n → ((y : Nat) : Int) ∈ l.orb → ms.getD y sd0 = ⟨some ⟨g, 0, none⟩, n, c⟩ → gm < g ∧ g ≠ qb ∧ g < w.heap.size
  lo : w0.heap.size ≤ gr ∧ gr < gm ∧ gm < qb ∧ qb < w.heap.size
set_option maxHeartbeats 1000000 in
theorem rlevel_spec {n : Nat} {pt : Int} {gens : List (List Int)} {ga : Option Addr} {gs : List SD} {w : World} (gc : Nat) (h1 : 1 ≤ n ∧ n ≤ 512) (hpt : 0 ≤ pt ∧ pt < n) (hg : GensN n gens) (hL : Lists w .i64 ga gs gens) (hgl : gens.length ≤ 1000000000000) :
    CallsR Try.prog 90 #[.int .i64 (n : Int), .int .i64 pt, .slice ga gs.length gc] w fun v w' => Ex w w' ∧ ∃ (m : Nat) (ms : List SD) (l : Lv), v = .agg ((⟨ga, gs, gc, ba m, ms, n⟩ : RH).cells pt).toArray ∧ RL w' n ⟨ga, gs, gc, ba m, ms, n⟩ l ∧ LvOK n l ∧ l.pt = pt ∧ l.gens = gens ∧ (∀ a, l.done.getD a 0 = 0) ∧ (w.heap.size ≤ m ∧ m < w'.heap.size) ∧ ∀ y ad, (ms.getD y sd0).a = some ad → w.heap.size ≤ ad.block ∧ ad.block < w'.heap.size := by
  refine callsR_of (args := [_, _, _]) Try.func90 rfl rfl ?_
  obtain ⟨x0, rfl⟩ : ∃ m : Nat, pt = (m : Int) := ⟨pt.toNat, by omega⟩
  have hx0 : x0 < n := by omega
  have hid : identF (n : Int) = (idList n, true) := by unfold identF; rw [if_pos (by omega), Int.toNat_natCast]
  have hlen := hL.len
  repeat' (first | (refine cw_seq ?_) | (refine cw_region rfl ?_))
  refine k_allocA (vs := [.int .i64 0, .slice none 0 0, .slice none 0 0]) (fun gr w1 hn1 => ⟨fun _ _ => trivial, ?_⟩)
  repeat' (first | (refine k_makeS rfl rfl (by omega) (by omega) (fun gm w2 hn2 => ⟨fun _ _ => trivial, ?_⟩)) | (refine k_pure rfl ?_) | (refine then_normal ?_) | (refine cw_seq ?_) | (refine cw_region rfl ?_) | (refine rr_nil ?_))
  refine k_call (refIdentity_spec (n : Int) w2) rfl ?_
  rintro v w3 ⟨b3, c3, rfl, hO3, hE3⟩
  refine ⟨fun _ _ => trivial, ?_⟩
  rw [hid] at hO3 ⊢
  rw [idList_length] at hO3 ⊢
  obtain ⟨bg, rfl⟩ := hO3.baPos (by omega)
  have l1 := hn1.lo; have l2 := hn2.lo; have lb1 := hn1.blk.lt; have lb2 := hn2.blk.lt; have lb3 := (hO3.lo _ rfl).1; have lb4 := (hO3.lo _ rfl).2; have s3 := hE3.size; have s2 := hn2.ex.size
  simp only at lb3 lb4
  have hr1 := hn1.blk
  repeat' (first | (refine k_indexN (j := x0) rfl rfl ⟨_, _, rfl⟩ (by omega) ?_) | (refine k_storeS rfl rfl (hn2.blk.ext hE3) (by simp; omega) (fun w4 hc4 hb4 => ⟨fun _ _ => trivial, ?_⟩)) | (refine k_litI1 rfl (fun qb w5 hn5 => ⟨fun _ _ => trivial, ?_⟩)) | (refine k_pure rfl ?_) | (refine then_normal ?_) | (refine cw_seq ?_) | (refine cw_region rfl ?_) | (refine rr_nil ?_) | (refine cw_block ?_))
  have l5 := hn5.lo
  have s4 := hc4.size
  have lb5 := hn5.blk.lt
  have ex5 : Ex w w5 := (((hn1.ex.trans hn2.ex).trans hE3).chg hc4 (by have := hn1.ex.size; omega)).trans hn5.ex
  have hmp5 : MpAt w5 n (Lv.one n (x0 : Int) gens) ((List.replicate n sd0).set x0 ⟨some ⟨bg, 0, none⟩, n, c3⟩) := by
    have e : ∀ z, (List.replicate n sd0).getD z sd0 = sd0 := fun z => by rw [List.getD_eq_getElem?_getD, List.getElem?_replicate]; split <;> rfl
    refine ⟨by simp, fun y hy => ?_, fun y hy hn => ?_⟩
    · have hy' : (y : Int) ∈ [(x0 : Int)] := hy
      rw [List.mem_singleton] at hy'
      obtain rfl : y = x0 := by omega
      refine ⟨bg, c3, by rw [getD_setS (by simp; omega), if_pos rfl], ?_⟩
      have e2 : (Lv.one n (y : Int) gens).to (y : Int) = idList n := by simp [Lv.to, Lv.one, Lv.bk]
      rw [e2, inv_one h1]
      exact (hO3.sl.chg hc4 (by rintro _ ⟨⟩; simp only; omega)).ext hn5.ex
    · have hn' : (y : Int) ∉ [(x0 : Int)] := hn
      rw [List.mem_singleton] at hn'
      rw [getD_setS (by simp; omega), if_neg (by omega), e]
  refine cw_loop (ι := Nat × Lv × List SD × Nat × Nat) [8, 9, 11, 12, 25, 26, 27, 28, 29, 30, 31, 32, 33, 34, 35, 36, 37, 38, 39, 40, 41, 42, 43, 44, 45, 46, 47, 48, 49, 50, 51, 52, 53, 54, 55, 56, 57, 58, 59, 60, 61, 62, 63, 64, 65] (fun s => [(9, .int .i64 (s.1 : Int)), (8, .slice (ba s.2.2.2.1) s.2.1.orb.length s.2.2.2.2)])
    (fun s w' => LJ w w' n gr gm s.2.2.2.1 s.2.2.2.2 s.2.1 s.2.2.1 ∧ Part n s.2.1 ∧ Grow (Lv.one n (x0 : Int) gens) s.2.1 ∧ Clo s.2.1 s.1 0 ∧ s.1 ≤ s.2.1.orb.length) (fun s => n - s.1)
    (0, Lv.one n (x0 : Int) gens, (List.replicate n sd0).set x0 ⟨some ⟨bg, 0, none⟩, n, c3⟩, qb, 1) ⟨rfl, rfl, trivial⟩
    ⟨⟨ex5, ?_, (hb4.ext hn5.ex), hmp5, (hn5.blk.own (n := 1) (s := 1) (by simp) (by unfold maxLen; omega) (Nat.zero_le _)), ?_, ⟨by omega, by omega, by simp only; omega, lb5⟩⟩, part_one h1 hpt hg, Grow.refl _, ⟨fun i hi => absurd hi (by simp), fun j hj => absurd hj (by simp)⟩, Nat.zero_le _⟩ ?_
  · exact (((hr1.ext hn2.ex).ext hE3).chg hc4 (by omega)).ext hn5.ex
  · intro y g c hyn hy he
    have hy' : (y : Int) ∈ [(x0 : Int)] := hy
    rw [List.mem_singleton] at hy'
    obtain rfl : y = x0 := by omega
    rw [getD_setS (by simp; omega), if_pos rfl] at he
    simp only [SD.mk.injEq, Option.some.injEq, Addr.mk.injEq] at he
    simp only
    omega
  rintro ⟨i, l1, ms1, qb1, qc1⟩ ξ w6 ⟨hJ1, hp1, hg1, hc1, hi1⟩
  simp only at hJ1 hp1 hg1 hc1 hi1
  show CW _ _ _ _ (over [(9, .int .i64 (i : Int)), (8, .slice (ba qb1) l1.orb.length qc1)] _) w6
  have hol1 := hp1.orb_le
  repeat' (first | (refine k_pure rfl ?_) | (refine then_normal ?_) | (refine cw_seq ?_) | (refine cw_region rfl ?_) | (refine rr_nil ?_) | (refine k_len rfl ?_) | (refine cw_cond_dec rfl (fun hc => ?_) (fun hc => ?_)) | (refine cw_block ?_) | (refine cw_exit ?_) | (refine then_exit ?_) | (refine in_exit ?_) | (refine cw_skip ?_))
  · have hio : i < l1.orb.length := by omega
    refine cw_loop (ι := Nat × Lv × List SD × Nat × Nat) [8, 11, 12, 33, 34, 35, 36, 37, 38, 39, 40, 41, 42, 43, 44, 45, 46, 47, 48, 49, 50, 51, 52, 53, 54, 55, 56, 57, 58, 59, 60, 61, 62, 63, 64, 65] (fun s => [(33, .int .i64 (s.1 : Int)), (8, .slice (ba s.2.2.2.1) s.2.1.orb.length s.2.2.2.2)])
      (fun s w' => LJ w w' n gr gm s.2.2.2.1 s.2.2.2.2 s.2.1 s.2.2.1 ∧ Part n s.2.1 ∧ Grow (Lv.one n (x0 : Int) gens) s.2.1 ∧ Clo s.2.1 i s.1 ∧ i < s.2.1.orb.length ∧ s.1 ≤ gens.length) (fun s => gens.length - s.1)
      (0, l1, ms1, qb1, qc1) ⟨rfl, rfl, trivial⟩ ⟨hJ1, hp1, hg1, hc1, hio, Nat.zero_le _⟩ ?_
    rintro ⟨k, l2, ms2, qb2, qc2⟩ ξ2 w7 ⟨hJ2, hp2, hg2, hc2, hi2, hk2⟩
    simp only at hJ2 hp2 hg2 hc2 hi2 hk2
    show CW _ _ _ _ (over [(33, .int .i64 (k : Int)), (8, .slice (ba qb2) l2.orb.length qc2)] _) w7
    have hgL := hL.ext hJ2.ex
    have hgg : l2.gens = gens := hg2.gens
    obtain ⟨⟨sa, sl, sc⟩, hsd⟩ : ∃ s, gs.getD k sd0 = s := ⟨_, rfl⟩
    repeat' (first | (refine k_indexN rfl rfl (hgL.sl.plain (by simp; omega)) (by omega) ?_) | (refine k_loadSd rfl hgL.sl (by omega) hsd ?_) | (refine k_pure rfl ?_) | (refine then_normal ?_) | (refine cw_seq ?_) | (refine cw_region rfl ?_) | (refine rr_nil ?_) | (refine k_addI rfl rfl (by omega) (by omega) ?_) | (refine cw_cond_dec rfl (fun hc => ?_) (fun hc => ?_)) | (refine cw_block ?_) | (refine cw_exit ?_) | (refine then_exit ?_) | (refine in_exit ?_) | (refine in_normal ?_) | (refine cw_skip ?_))
    · have hkg : k < gens.length := by omega
      have hgP := hg _ (getD_mem (d := []) hkg)
      obtain ⟨hsl, hsn⟩ := hgL.each k hkg
      have hkey : l2.gens.getD k [] = gens.getD k [] := by rw [hgg]
      generalize hgk : gens.getD k [] = g at *
      rw [hsd] at hsl hsn
      simp only at hsl hsn
      have hgl' : g.length = n := hgP.2
      obtain rfl : sl = n := by omega
      have hx := hp2.orb_in (getD_mem (d := 0) hi2)
      have hyr := hgP.ap hx
      obtain ⟨x, hx'⟩ : ∃ m : Nat, l2.orb.getD i 0 = (m : Int) := ⟨(l2.orb.getD i 0).toNat, by omega⟩
      obtain ⟨y, hy'⟩ : ∃ m : Nat, g.getD x 0 = (m : Int) := ⟨(g.getD x 0).toNat, by unfold ap at hyr; rw [hx', Int.toNat_natCast] at hyr; omega⟩
      have hap : ap g (l2.orb.getD i 0) = (y : Int) := by unfold ap; rw [hx', Int.toNat_natCast, hy']
      have hyn : y < sl := by omega
      have hxn : x < sl := by omega
      have hq2 := hJ2.q.sl
      have hmb := hJ2.mb.sl
      have hml := hJ2.mp.len
      have hol2 := hp2.orb_le
      have hxm : (x : Int) ∈ l2.orb := by rw [← hx']; exact getD_mem hi2
      obtain ⟨gx, cx, hsx, hSx⟩ := hJ2.mp.inn x hxm
      have hsx' : ms2.getD x { a := none, len := 0, cap := 0 } = _ := hsx
      by_cases hm : (y : Int) ∈ l2.orb
      · obtain ⟨gy, cy, hsy, hSy⟩ := hJ2.mp.inn y hm
        repeat' (first | (refine k_indexN (j := i) rfl rfl ⟨_, _, rfl⟩ (by omega) ?_) | (refine k_loadI rfl hq2 (by omega) ?_) | (refine k_indexN (j := x) (a := sa) (l := sl) (c := sc) rfl (congrArg _ hx') (hsl.plain (by simp; omega)) (by omega) ?_) | (refine k_loadI rfl hsl (by omega) ?_) | (refine k_indexN (j := y) rfl (congrArg _ hy') ⟨_, _, rfl⟩ (by omega) ?_) | (refine k_loadSd rfl hmb (by omega) hsy ?_) | (refine k_eqNil rfl rfl ?_) | (refine k_pure rfl ?_) | (refine then_normal ?_) | (refine cw_seq ?_) | (refine cw_region rfl ?_) | (refine rr_nil ?_) | (refine k_addI rfl rfl (by omega) (by omega) ?_) | (refine cw_cond_false rfl ?_) | (refine in_normal ?_) | (refine cw_skip ?_))
        refine ⟨⟨(k + 1, l2, ms2, qb2, qc2), ⟨hJ2, hp2, hg2, hc2.skip (by rw [hkey, hap]; exact hm), hi2, by simp only; omega⟩, by simp only; omega, rfl, rfl, trivial⟩, (by (repeat (first | exact agree_mask _ _ _ | refine agree_upd rfl ?_ | refine agree_updO rfl ?_ | refine agree_overIn rfl ?_ | refine agree_maskIn rfl ?_)))⟩
      · have hsy := hJ2.mp.out y hyn hm
        have hlt := hJ2.lo
        have hto : l2.to (x : Int) = l2.bk i := by unfold Lv.to; rw [← hx', idxOf_nd hp2.nd hi2]
        have hbp := (gen_grp hp2.n1 hp2.gens).perm _ (hp2.bin i hi2)
        have hpx : PermN sl (inv (l2.to (x : Int))) := by rw [hto]; exact hbp.inv
        have hxl := hpx.2
        repeat' (first | (refine k_indexN (j := i) rfl rfl ⟨_, _, rfl⟩ (by omega) ?_) | (refine k_loadI rfl hq2 (by omega) ?_) | (refine k_indexN (j := x) (a := sa) (l := sl) (c := sc) rfl (congrArg _ hx') (hsl.plain (by simp; omega)) (by omega) ?_) | (refine k_loadI rfl hsl (by omega) ?_) | (refine k_indexN (j := y) rfl (congrArg _ hy') ⟨_, _, rfl⟩ (by omega) ?_) | (refine k_loadSd rfl hmb (by omega) hsy ?_) | (refine k_eqNil rfl rfl ?_) | (refine k_indexN (j := x) rfl (congrArg _ hx') ⟨_, _, rfl⟩ (by omega) ?_) | (refine k_loadSd rfl hmb (by omega) hsx ?_) | (refine k_pure rfl ?_) | (refine then_normal ?_) | (refine cw_seq ?_) | (refine cw_region rfl ?_) | (refine rr_nil ?_) | (refine cw_cond_true rfl ?_))
        refine k_call (product_spec (xs := inv (l2.to (x : Int))) (ys := g) hSx hsl cx sc (by omega) (fun z hz => by obtain ⟨j, hj, e⟩ := mem_iff_getD.1 hz; have := hpx.1.lt (k := j) hj; omega)) (by rw [hxl, hgl']; rfl) ?_
        rintro v w8 ⟨pb, pc, rfl, hO8, hE8⟩
        refine ⟨fun _ _ => trivial, ?_⟩
        rw [mulP_length, hxl] at hO8 ⊢
        obtain ⟨pg, rfl⟩ := hO8.baPos (by omega)
        have lp := hO8.lo _ rfl
        simp only at lp
        have s8 := hE8.size
        repeat' (first | (refine k_indexN (j := y) rfl (congrArg _ hy') ⟨_, _, rfl⟩ (by omega) ?_) | (refine k_storeS (j := y) rfl rfl (hJ2.mb.ext hE8) (by omega) (fun w9 hc9 hb9 => ⟨fun _ _ => trivial, ?_⟩)) | (refine k_pure rfl ?_) | (refine then_normal ?_) | (refine cw_region rfl ?_) | (refine rr_nil ?_))
        have f9 := f1C hc9
        have s9 : w8.heap.size ≤ w9.heap.size := f9.size
        have q9 := Own.f1 (hJ2.q.ext hE8) f9 (by omega)
        refine k_app1I rfl (congrArg _ hy') rfl rfl q9 (by omega) (by omega) (Nat.zero_le _) (fun gx6 a6 c6 w10 ho6 hg6 hA6 => ?_)
        obtain ⟨o6, rfl⟩ := Own.ba ho6
        replace hA6 := addr_or hA6
        have lo6 : o6 < w10.heap.size := (ho6.lo _ rfl).2
        have f10 := f1G hg6
        have s10 : w9.heap.size ≤ w10.heap.size := f10.size
        repeat' (first | (refine k_pure rfl ?_) | (refine then_normal ?_) | (refine cw_region rfl ?_) | (refine rr_nil ?_) | (refine k_addI rfl rfl (by omega) (by omega) ?_) | (refine in_normal ?_))
        have hbk : mulP (inv (l2.to (x : Int))) g = inv (mulP (inv g) (l2.bk i)) := by rw [inv_mulP hgP.inv hbp, inv_inv hgP, hto]
        have hnew : Sl w10 (some ⟨pg, 0, none⟩) (intsL (inv (mulP (inv g) (l2.bk i)))) := by
          rw [← hbk]
          exact (hO8.sl.fr f9 (by rintro _ ⟨⟩; show pg ≠ gm; omega)).fr f10 (by rintro _ ⟨⟩; show pg ≠ qb2; omega)
        have hin := fun z hz => hp2.orb_in (y := z) hz
        have hmp10 : MpAt w10 sl l2 ms2 := ((hJ2.mp.ext hE8).fr f9 (fun z g' c' hz hm' he => by have := hJ2.ne z g' c' hz hm' he; omega) hin).fr f10 (fun z g' c' hz hm' he => (hJ2.ne z g' c' hz hm' he).2.1) hin
        have hadd := hp2.add hi2 (k := k) (by rw [hgg]; exact hkg) (by rw [hkey, hap]; exact hm)
        rw [hkey, hap] at hadd
        have hcl := hc2.add hi2 (mulP (inv g) (l2.bk i))
        rw [hkey, hap] at hcl
        refine ⟨⟨(k + 1, l2.add (y : Int) (mulP (inv g) (l2.bk i)), ms2.set y ⟨some ⟨pg, 0, none⟩, sl, pc⟩, o6, c6), ⟨⟨?_, ?_, ?_, hmp10.add hp2.len hyn hm hnew, ?_, ?_, ⟨hlt.1, hlt.2.1, by simp only; omega, by simp only; omega⟩⟩, hadd, hg2.add _ _, hcl, ?_, by simp only; omega⟩, by simp only; omega, rfl, ?_, trivial⟩, (by (repeat (first | exact agree_mask _ _ _ | refine agree_upd rfl ?_ | refine agree_updO rfl ?_ | refine agree_overIn rfl ?_ | refine agree_maskIn rfl ?_)))⟩
        · exact Ex.gb ((hJ2.ex.trans hE8).chg hc9 (by omega)) hg6 (by rintro _ ⟨⟩; show w.heap.size ≤ qb2; omega)
        · exact Blk.f1 (Blk.f1 (hJ2.res.ext hE8) f9 (by omega)) f10 (by omega)
        · exact Blk.f1 hb9 f10 (by omega)
        · simp only [Lv.add, List.length_append, List.length_singleton]
          exact ho6
        · intro z g' c' hz hm' he
          rw [getD_setS (by omega)] at he
          by_cases e : y = z
          · rw [if_pos e] at he
            simp only [SD.mk.injEq, Option.some.injEq, Addr.mk.injEq] at he
            simp only
            omega
          · rw [if_neg e] at he
            have hz' : (z : Int) ∈ l2.orb := by
              have hz2 : (z : Int) ∈ l2.orb ++ [(y : Int)] := hm'
              rw [List.mem_append, List.mem_singleton] at hz2
              rcases hz2 with h | h
              · exact h
              · omega
            have := hJ2.ne z g' c' hz hz' he
            simp only
            omega
        · simp only [Lv.add, List.length_append, List.length_singleton]; omega
        · show Value.slice (ba o6) (l2.orb.length + 1) c6 = .slice (ba o6) (l2.orb ++ [(y : Int)]).length c6
          rw [List.length_append, List.length_singleton]
    · obtain rfl : k = gens.length := by omega
      rw [← hgg] at hc2
      refine ⟨⟨(i + 1, l2, ms2, qb2, qc2), ⟨hJ2, hp2, hg2, hc2.next, by simp only; omega⟩, by simp only; omega, rfl, rfl, trivial⟩, (by (repeat (first | exact agree_mask _ _ _ | refine agree_upd rfl ?_ | refine agree_updO rfl ?_ | refine agree_overIn rfl ?_ | refine agree_maskIn rfl ?_)))⟩
  · obtain rfl : i = l1.orb.length := by omega
    refine k_build (cs := (⟨ga, gs, gc, ba gm, ms1, n⟩ : RH).cells (x0 : Int)) (by show _ = some (#[.int .i64 (x0 : Int), .slice ga gs.length gc, .slice (ba gm) ms1.length n] : Array Value); rw [hJ1.mp.len]; rfl) ?_
    refine k_storeV (n := 3) rfl rfl rfl rfl hJ1.res rfl (fun w11 hc11 hb11 => ⟨fun _ _ => trivial, ?_⟩)
    repeat' (first | (refine then_normal ?_) | (refine rr_nil ?_) | (refine cw_ret ?_))
    have f11 := f1C hc11
    have hlo := hJ1.lo
    refine ret1 rfl (rc rfl rfl hb11) ⟨hJ1.ex.chg hc11 (by omega), gm, ms1, l1, rfl, ⟨?_, ?_, ?_⟩, hp1.ok hc1, hg1.pt, hg1.gens, hg1.new, ⟨by omega, by have := hb11.lt; have := (Blk.f1 hJ1.mb f11 (by omega)).lt; omega⟩, ?_⟩
    · show Lists w11 .i64 ga gs l1.gens
      rw [show l1.gens = gens from hg1.gens]
      exact hL.ext (hJ1.ex.chg hc11 (by omega))
    · exact (Blk.f1 hJ1.mb f11 (by omega)).sl
    · exact hJ1.mp.fr f11 (fun z g' c' hz hm' he => by have := hJ1.ne z g' c' hz hm' he; omega) (fun z hz => hp1.orb_in hz)
    · intro y ad he
      have s11 : w6.heap.size ≤ w11.heap.size := f11.size
      by_cases hyn : y < n
      · by_cases hm : (y : Int) ∈ l1.orb
        · obtain ⟨g', c', h1', _⟩ := hJ1.mp.inn y hm
          have := hJ1.ne y g' c' hyn hm h1'
          rw [h1'] at he
          simp only [Option.some.injEq] at he
          subst he
          simp only
          omega
        · rw [hJ1.mp.out y hyn hm] at he; cases he
      · rw [List.getD_eq_getElem?_getD, List.getElem?_eq_none (by have := hJ1.mp.len; omega)] at he; cases he
end Go.Proofs.Ythhfjagnmhhapaa

