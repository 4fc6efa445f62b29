
import Derived.Test.YthhfjagnmhhapaaA04
import Derived.Test.YthhfjagnmhhapaaA05
import Derived.Test.YthhfjagnmhhapaaA06
import Derived.Test.YthhfjagnmhhapaaA07
import Derived.Test.YthhfjagnmhhapaaA16
import Derived.Test.YthhfjagnmhhapaaA18

/- Lagrange, the order of the group of all permutations, and products of lengths of orbits. Plain laws. -/
namespace Go.PM
theorem coset_eq {n : Nat} {h h' x r : List Int} (ph : PermN n h) (ph' : PermN n h') (px : PermN n x) (e : mulP h x = mulP h' r) : x = mulP (mulP (inv h) h') r := by
  rw [mul_assoc ph.inv ph', ← e, ← mul_assoc ph.inv ph, inv_mul ph, one_mul px]
theorem cosets {n : Nat} {H K : List Int → Prop} (hH : Grp n H) (hK : Grp n K) (hs : ∀ p, H p → K p) {Lh : List (List Int)} (hm : ∀ p, p ∈ Lh ↔ H p) : ∀ M : List (List Int), (∀ p ∈ M, K p) →
    ∃ R : List (List Int), (∀ r ∈ R, K r) ∧ R.Nodup ∧ (∀ r ∈ R, ∀ r' ∈ R, r ≠ r' → ∀ z, z ∈ Lh.map (fun h => mulP h r) → z ∉ Lh.map (fun h => mulP h r')) ∧ ∀ p ∈ M, p ∈ R.flatMap (fun r => Lh.map (fun h => mulP h r))
  | [], _ => ⟨[], by simp, by simp, by simp, by simp⟩
  | x :: M, hM => by
    obtain ⟨R, h1, h2, h3, h4⟩ := cosets hH hK hs hm M fun p hp => hM p (by simp [hp])
    by_cases hx : x ∈ R.flatMap (fun r => Lh.map (fun h => mulP h r))
    · refine ⟨R, h1, h2, h3, fun p hp => ?_⟩
      rcases List.mem_cons.1 hp with rfl | hp
      · exact hx
      · exact h4 p hp
    · have hKx := hM x (by simp)
      have px := hK.perm x hKx
      have key : ∀ r ∈ R, ∀ z, z ∈ Lh.map (fun h => mulP h x) → z ∉ Lh.map (fun h => mulP h r) := fun r hr z hz hz' => by
        obtain ⟨h, hh, rfl⟩ := List.mem_map.1 hz
        obtain ⟨h', hh', e⟩ := List.mem_map.1 hz'
        have hh1 := (hm h).1 hh
        have hh2 := (hm h').1 hh'
        have := coset_eq (hH.perm _ hh1) (hH.perm _ hh2) px e.symm
        exact hx (List.mem_flatMap.2 ⟨r, hr, List.mem_map.2 ⟨_, (hm _).2 (hH.mul _ _ (hH.inv hh1) hh2), this.symm⟩⟩)
      have hself : x ∈ Lh.map (fun h => mulP h x) := List.mem_map.2 ⟨idList n, (hm _).2 hH.one, one_mul px⟩
      refine ⟨x :: R, ?_, List.nodup_cons.2 ⟨fun hxR => key x hxR x hself hself, h2⟩, ?_, ?_⟩
      · intro r hr
        rcases List.mem_cons.1 hr with rfl | hr
        · exact hKx
        · exact h1 r hr
      · intro r hr0 r' hr0' hne z hz hz'
        rw [List.mem_cons] at hr0 hr0'
        rcases hr0 with e | hr
        · rcases hr0' with e' | hr'
          · exact hne (e.trans e'.symm)
          · rw [e] at hz; exact key r' hr' z hz hz'
        · rcases hr0' with e' | hr'
          · rw [e'] at hz'; exact key r hr z hz' hz
          · exact h3 r hr r' hr' hne z hz hz'
      · intro p hp
        rw [List.flatMap_cons, List.mem_append]
        rcases List.mem_cons.1 hp with rfl | hp
        · exact .inl hself
        · exact .inr (h4 p hp)
/-- Lagrange -/
theorem lagrange {n : Nat} {H K : List Int → Prop} (hH : Grp n H) (hK : Grp n K) (hs : ∀ p, H p → K p) {h k : Nat} (ch : Card H h) (ck : Card K k) : k % h = 0 := by
  obtain ⟨Lh, nd, hm, rfl⟩ := ch
  obtain ⟨Lk, ndk, hmk, rfl⟩ := ck
  obtain ⟨R, h1, h2, h3, h4⟩ := cosets hH hK hs hm Lk fun p hp => (hmk p).1 hp
  have hc : Card K (R.length * Lh.length) := by
    refine ⟨R.flatMap (fun r => Lh.map (fun h => mulP h r)), nodup_flat _ h2 (fun r hr => nodup_map _ nd fun p hp q hq e => mul_cancel (hH.perm _ ((hm p).1 hp)) (hH.perm _ ((hm q).1 hq)) (hK.perm _ (h1 r hr)) e) h3, fun p => ⟨fun hp => ?_, fun hp => h4 p ((hmk p).2 hp)⟩, length_flat _ _ fun r _ => List.length_map _⟩
    obtain ⟨r, hr, hp⟩ := List.mem_flatMap.1 hp
    obtain ⟨h, hh, rfl⟩ := List.mem_map.1 hp
    exact hK.mul _ _ (hs _ ((hm h).1 hh)) (h1 r hr)
  have := hc.unique ⟨Lk, ndk, hmk, rfl⟩
  rw [← this]; exact Nat.mul_mod_left _ _
/-- permutations that fix the points from m on -/
def SymTo (n m : Nat) (p : List Int) : Prop := PermN n p ∧ ∀ x : Int, m ≤ x → x < n → ap p x = x
theorem symTo_grp {n : Nat} (h : 1 ≤ n ∧ n ≤ 512) (m : Nat) : Grp n (SymTo n m) where
  perm := fun _ hp => hp.1
  one := ⟨permN_id h, fun x h1 h2 => ap_id ⟨by omega, h2⟩⟩
  mul := fun p q hp hq => ⟨hp.1.mul hq.1, fun x h1 h2 => by rw [ap_mul hp.1 ⟨by omega, h2⟩, hp.2 x h1 h2, hq.2 x h1 h2]⟩
def swF (i j x : Int) : Int := if x = i then j else if x = j then i else x
def swp (n : Nat) (i j : Int) : List Int := (idList n).map (swF i j)
theorem swF_inj {i j x y : Int} (h : swF i j x = swF i j y) : x = y := by
  unfold swF at h
  split at h <;> split at h <;> (try split at h) <;> (try split at h) <;> omega
theorem swp_perm {n : Nat} (h : 1 ≤ n ∧ n ≤ 512) {i j : Int} (hi : 0 ≤ i ∧ i < n) (hj : 0 ≤ j ∧ j < n) : PermN n (swp n i j) := by
  have hl : (swp n i j).length = n := by unfold swp; rw [List.length_map, idList_length]
  have hin : ∀ y ∈ swp n i j, 0 ≤ y ∧ y < n := by
   intro y hy
   obtain ⟨x, hx, rfl⟩ := List.mem_map.1 hy
   have := (idList_dist n).1 x hx
   unfold swF
   split
   · exact hj
   · split
     · exact hi
     · exact this
  exact ⟨⟨by rw [hl]; exact h.1, by rw [hl]; exact h.2, by rw [hl]; exact ⟨hin, nodup_map _ (idList_dist n).2 fun x _ y _ e => swF_inj e⟩⟩, hl⟩
theorem ap_swp {n : Nat} {i j x : Int} (hx : 0 ≤ x ∧ x < n) : ap (swp n i j) x = swF i j x := by
  obtain ⟨k, rfl⟩ : ∃ k : Nat, x = (k : Int) := ⟨x.toNat, by omega⟩
  have hk : k < n := by omega
  have h := idList_getD hk
  unfold ap swp
  rw [Int.toNat_natCast, List.getD_eq_getElem?_getD, List.getElem?_map]
  rw [List.getD_eq_getElem?_getD] at h
  rw [List.getElem?_eq_getElem (by rw [idList_length]; exact hk)] at h ⊢
  simp at h ⊢
  rw [h]
theorem card_symTo {n : Nat} (h : 1 ≤ n ∧ n ≤ 512) : ∀ m, m ≤ n → Card (SymTo n m) (fac m)
  | 0, _ => (card_id n).congr fun p => by
    constructor
    · rintro rfl; exact (symTo_grp h 0).one
    · rintro ⟨hp, hf⟩; exact (id_iff hp).2 fun x h1 h2 => hf x (by omega) h2
  | m + 1, hm => by
    have hx : 0 ≤ (m : Int) ∧ (m : Int) < n := by omega
    have hst : Card (Stab (SymTo n (m + 1)) (m : Int)) (fac m) := (card_symTo h m (by omega)).congr fun p => by
      constructor
      · rintro ⟨hp, hf⟩; exact ⟨⟨hp, fun x h1 h2 => hf x (by omega) h2⟩, hf _ (by omega) hx.2⟩
      · rintro ⟨⟨hp, hf⟩, he⟩
        refine ⟨hp, fun x h1 h2 => ?_⟩
        by_cases e : x = (m : Int)
        · rw [e]; exact he
        · exact hf x (by omega) h2
    have := orbit_stab (symTo_grp h (m + 1)) hx (orb := idList (m + 1)) (idList_dist (m + 1)).2 (fun y => ?_) hst
    · rw [idList_length] at this; exact this
    · constructor
      · intro hy
        have hyr := (idList_dist (m + 1)).1 y hy
        refine ⟨swp n y m, ⟨swp_perm h ⟨hyr.1, by omega⟩ hx, fun x h1 h2 => ?_⟩, ?_⟩
        · rw [ap_swp ⟨by omega, h2⟩]; unfold swF; rw [if_neg (by omega), if_neg (by omega)]
        · rw [ap_swp hx]; unfold swF
          split
          · omega
          · rw [if_pos rfl]
      · rintro ⟨p, ⟨hp, hf⟩, rfl⟩
        have hr := hp.ap hx
        by_cases hlt : ap p (m : Int) < ((m + 1 : Nat) : Int)
        · obtain ⟨k, hk⟩ : ∃ k : Nat, ap p (m : Int) = (k : Int) := ⟨(ap p (m : Int)).toNat, by omega⟩
          rw [hk]
          exact List.mem_map.2 ⟨k, by rw [List.mem_range]; omega, rfl⟩
        · have h1 := hf (ap p (m : Int)) (by omega) hr.2
          have h2 := hp.inj hr hx h1
          omega
theorem card_sym {n : Nat} (h : 1 ≤ n ∧ n ≤ 512) : Card (PermN n) (fac n) := (card_symTo h n (Nat.le_refl _)).congr fun p => ⟨fun hp => hp.1, fun hp => ⟨hp, fun x h1 h2 => by omega⟩⟩
theorem permN_grp {n : Nat} (h : 1 ≤ n ∧ n ≤ 512) : Grp n (PermN n) := ⟨fun _ h => h, permN_id h, fun _ _ hp hq => hp.mul hq⟩
/-- the product of a list of numbers -/
def prodI : List Int → Nat
  | [] => 1
  | x :: l => x.toNat * prodI l
theorem prodI_snoc : ∀ (l : List Int) (x : Int), prodI (l ++ [x]) = prodI l * x.toNat
  | [], x => by simp [prodI]
  | y :: l, x => by show y.toNat * prodI (l ++ [x]) = y.toNat * prodI l * x.toNat; rw [prodI_snoc l x, Nat.mul_assoc]
theorem prodI_append : ∀ (l m : List Int), prodI (l ++ m) = prodI l * prodI m
  | [], m => by simp [prodI]
  | y :: l, m => by show y.toNat * prodI (l ++ m) = y.toNat * prodI l * prodI m; rw [prodI_append l m, Nat.mul_assoc]
theorem pstab_grp {n : Nat} {H : List Int → Prop} (hH : Grp n H) {pts : List Int} (hp : ∀ x ∈ pts, 0 ≤ x ∧ x < n) : Grp n (PStab H pts) where
  perm := fun p h => hH.perm p h.1
  one := ⟨hH.one, fun x hx => ap_id (hp x hx)⟩
  mul := fun p q h1 h2 => ⟨hH.mul _ _ h1.1 h2.1, fun x hx => by rw [ap_mul (hH.perm _ h1.1) (hp x hx), h1.2 x hx, h2.2 x hx]⟩
theorem len_card {n : Nat} {G : List Int → Prop} (hG : Grp n G) {base L : List Int} (hb : PermN n base) (hl : L.length = n) (h : ∀ i, i < n → ∃ m : Nat, L.getD i 0 = (m : Int) ∧ OrbLen (PStab G (base.take i)) (base.getD i 0) m) :
    ∀ d i, i + d = n → Card (PStab G (base.take i)) (prodI (L.drop i))
  | 0, i, e => by
    obtain rfl : i = n := by omega
    rw [List.drop_eq_nil_of_le (by omega), List.take_of_length_le (by rw [hb.2]; exact Nat.le_refl _)]
    refine (card_id i).congr fun p => ?_
    constructor
    · rintro rfl; exact ⟨hG.one, fun x hx => ap_id (by have := hb.1.2.2.1 x hx; rw [hb.2] at this; exact this)⟩
    · rintro ⟨hp, hf⟩
      refine (id_iff (hG.perm p hp)).2 fun x h1 h2 => hf x ?_
      have hx : ap base (ap (inv base) x) = x := ap_inv' hb ⟨h1, h2⟩
      have hr := hb.inv.ap ⟨h1, h2⟩
      rw [← hx]
      exact getD_mem (by rw [hb.2]; omega)
  | d + 1, i, e => by
    have hi : i < n := by omega
    obtain ⟨m, hm, orb, h1, h2, rfl⟩ := h i hi
    have hbi : 0 ≤ base.getD i 0 ∧ base.getD i 0 < n := by have := hb.1.lt (k := i) (by rw [hb.2]; exact hi); rw [hb.2] at this; exact this
    have ih := len_card hG hb hl h d (i + 1) (by omega)
    have hst : Card (Stab (PStab G (base.take i)) (base.getD i 0)) (prodI (L.drop (i + 1))) := ih.congr fun p => by
      rw [take_succ_getD base 0 (by rw [hb.2]; exact hi)]
      constructor
      · rintro ⟨hp, hf⟩
        exact ⟨⟨hp, fun x hx => hf x (by simp [hx])⟩, hf _ (by simp)⟩
      · rintro ⟨⟨hp, hf⟩, he⟩
        refine ⟨hp, fun x hx => ?_⟩
        rcases List.mem_append.1 hx with hx | hx
        · exact hf x hx
        · rw [List.mem_singleton] at hx; rw [hx]; exact he
    have hc := orbit_stab (pstab_grp hG fun x hx => by have := hb.1.2.2.1 x (List.mem_of_mem_take hx); rw [hb.2] at this; exact this) hbi h1 h2 hst
    have hdr : L.drop i = L.getD i 0 :: L.drop (i + 1) := by
      rw [List.drop_eq_getElem_cons (by omega), List.getD_eq_getElem?_getD, List.getElem?_eq_getElem (by omega)]; rfl
    rw [hdr, hm]
    show Card _ ((orb.length : Int).toNat * prodI (L.drop (i + 1)))
    rw [Int.toNat_natCast]; exact hc
/-- products and the enlarged group -/
theorem gen_in_iff {n : Nat} {gens : List (List Int)} {r : List Int} (h1 : 1 ≤ n ∧ n ≤ 512) (hg : GensN n gens) (hr : PermN n r) {a b : Nat} (ha : Card (Gen n gens) a) (hb : Card (Gen n (gens ++ [r])) b) : Gen n gens r ↔ a = b := by
  have hg' : GensN n (gens ++ [r]) := fun q hq => by
    rcases List.mem_append.1 hq with hq | hq
    · exact hg q hq
    · rw [List.mem_singleton] at hq; rw [hq]; exact hr
  have hsub : ∀ p, Gen n gens p → Gen n (gens ++ [r]) p := fun p hp => gen_mono (fun q hq => by simp [hq]) hp
  have hrin : Gen n (gens ++ [r]) r := gen_self hg' (by simp)
  constructor
  · intro h
    refine ha.unique (hb.congr fun p => ⟨fun hp => gen_le (gen_grp h1 hg) (fun q hq => ?_) hp, hsub p⟩)
    rcases List.mem_append.1 hq with hq | hq
    · exact gen_self hg hq
    · rw [List.mem_singleton] at hq; rw [hq]; exact h
  · intro e
    exact ha.eq hb hsub (by omega) r hrin
end Go.PM

