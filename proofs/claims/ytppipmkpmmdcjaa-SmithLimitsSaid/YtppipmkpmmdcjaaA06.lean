import Derived.Test.YtppipmkpmmdcjaaA05
namespace Go.Proofs.Ytppipmkpmmdcjaa
open Go.W Go.LM
structure DvJ (N V n m k : Nat) (R Q : List Nat) : Prop where
 rl : R.length = m + 1 + n
 ql : Q.length = m + 1
 lr : Lim R
 lq : Lim Q
 eq : natOf R + V * natOf Q = N
 hi : natOf (R.drop k) < V
 zero : ∀ i, i < k → Q.getD i 0 = 0
 le : k ≤ m + 1
theorem Lim.drop {l : List Nat} (h : Lim l) (k : Nat) : Lim (l.drop k) := fun d hd => h d (List.mem_of_mem_drop hd)
theorem Lim.append {l m : List Nat} (h : Lim l) (h' : Lim m) : Lim (l ++ m) := fun d hd => by
 rcases List.mem_append.1 hd with e | e
 ·exact h d e
 ·exact h' d e
theorem DvJ.pre {N V n m k : Nat} {R Q : List Nat} (h : DvJ N V n m (k + 1) R Q) (hV : V < 4294967296 ^ n) :
  natOf ((R.drop k).take (n + 1)) < V * 4294967296 ∧ natOf (R.drop (k + (n + 1))) = 0 ∧ ((R.drop k).take (n + 1)).length = n + 1 ∧ (R.take k).length = k ∧ R = R.take k ++ (R.drop k).take (n + 1) ++ R.drop (k + (n + 1)) := by
 have h1 := h.rl
 have h2 := h.le
 have e := cx (ls := R) (k := k) (by omega)
 have h3 := h.hi
 have h4 := h.lr.getD k
 have h5 : natOf (R.drop k) < V * 4294967296 := by
  rw [e]
  have : (natOf (R.drop (k + 1)) + 1) * 4294967296 ≤ V * 4294967296 := Nat.mul_le_mul_right _ h3
  omega
 have hd : (R.drop k).length = m + 1 + n - k := by rw [List.length_drop, h1]
 have es := cI (R.drop k) (k := n + 1) (by omega)
 rw [List.drop_drop] at es
 have hz : natOf (R.drop (k + (n + 1))) = 0 := by
  rcases Nat.eq_zero_or_pos (natOf (R.drop (k + (n + 1)))) with h0 | h0
  ·exact h0
  ·exfalso
   have : 4294967296 ^ (n + 1) * 1 ≤ 4294967296 ^ (n + 1) * natOf (R.drop (k + (n + 1))) := Nat.mul_le_mul_left _ h0
   have h6 : V * 4294967296 < 4294967296 ^ n * 4294967296 := Nat.mul_lt_mul_of_pos_right hV (by decide)
   rw [Nat.pow_succ] at this es
   omega
 refine ⟨by rw [es] at h5; omega, hz, by rw [List.length_take, hd]; omega, by rw [List.length_take, h1]; omega, ?_⟩
 rw [List.append_assoc, ← List.drop_drop, List.take_append_drop, List.take_append_drop]
theorem DvJ.step {N V n m k : Nat} {R Q S' : List Nat} (h : DvJ N V n m (k + 1) R Q) (hV : V < 4294967296 ^ n) (h0 : 0 < V) (hl : S'.length = n + 1) (hL : Lim S') (hS : natOf S' = natOf ((R.drop k).take (n + 1)) % V) :
  DvJ N V n m k (R.take k ++ S' ++ R.drop (k + (n + 1))) (Q.set k (natOf ((R.drop k).take (n + 1)) / V)) := by
 obtain ⟨p1, p2, p3, p4, p5⟩ := h.pre hV
 have h1 := h.rl
 have h2 := h.le
 have hq := h.ql
 have heq := h.eq
 have hR : natOf R = natOf (R.take k) + 4294967296 ^ k * natOf ((R.drop k).take (n + 1)) := by
  conv => lhs; rw [p5]
  rw [cj, cj, p2, p4, Nat.mul_zero, Nat.add_zero]
 have hqd : natOf ((R.drop k).take (n + 1)) / V < 4294967296 := (Nat.div_lt_iff_lt_mul h0).2 (by rw [Nat.mul_comm]; exact p1)
 have hdm := Nat.div_add_mod (natOf ((R.drop k).take (n + 1))) V
 generalize (R.drop k).take (n + 1) = S at *
 have hQ := cu (l := Q) (k := k) (v := natOf S / V) (by omega)
 rw [h.zero k (by omega), Nat.zero_mul, Nat.add_zero] at hQ
 refine ⟨by simp only [List.length_append, p4, hl, List.length_drop]; omega, by simp [hq], Lim.append (Lim.append (h.lr.take k) hL) (Lim.drop h.lr _), h.lq.set hqd, ?_, ?_, fun i hi => ?_, by omega⟩
 ·rw [cj, cj, p2, p4, Nat.mul_zero, Nat.add_zero, hQ, hS, Nat.mul_add]
  rw [hR] at heq
  generalize natOf S / V = q at *
  generalize natOf S % V = r at *
  generalize 4294967296 ^ k = E at *
  have : V * (q * E) + E * r = E * natOf S := by rw [← hdm]; grind
  omega
 ·rw [List.append_assoc, List.drop_append_of_le_length (by omega), List.drop_of_length_le (by omega), List.nil_append, cj, p2, Nat.mul_zero, Nat.add_zero, hS]
  exact Nat.mod_lt _ h0
 ·rw [ct (by omega)]; exact h.zero i (by omega)
theorem DvJ.fin {N V n m : Nat} {R Q : List Nat} (h : DvJ N V n m 0 R Q) : natOf Q = N / V ∧ natOf R = N % V := by
 have h1 := h.hi
 have h2 := h.eq
 simp only [List.drop_zero] at h1
 refine ⟨?_, ?_⟩
 ·rw [← h2, Nat.add_mul_div_left _ _ (by omega), Nat.div_eq_of_lt h1, Nat.zero_add]
 ·rw [← h2, Nat.add_mul_mod_self_left, Nat.mod_eq_of_lt h1]
theorem DvJ.start {A D V n m s : Nat} {R : List Nat} (hR : natOf R = A * 2 ^ s) (_hV : V = D * 2 ^ s) (hl : R.length = m + 1 + n) (lR : Lim R) (hn : 1 ≤ n) (hA : A < 4294967296 ^ (m + n)) (hD : 4294967296 ^ (n - 1) * 2147483648 ≤ V) (hs : s ≤ 31) :
  DvJ (A * 2 ^ s) V n m (m + 1) R (List.replicate (m + 1) 0) := by
 refine ⟨hl, by simp, lR, Lim.zeros _, by rw [dr, hR]; rfl, ?_, fun i hi => ?_, Nat.le_refl _⟩
 ·have e := cI R (k := m + 1) (by omega)
  have hp : (2 : Nat) ^ s ≤ 2147483648 := Nat.le_trans (Nat.pow_le_pow_right (by decide) hs) (by decide)
  rcases Nat.lt_or_ge (natOf (R.drop (m + 1))) V with h | h
  ·exact h
  ·exfalso
   have h1 : 4294967296 ^ (m + 1) * V ≤ 4294967296 ^ (m + 1) * natOf (R.drop (m + 1)) := Nat.mul_le_mul_left _ h
   have h2 : 4294967296 ^ (m + 1) * (4294967296 ^ (n - 1) * 2147483648) ≤ 4294967296 ^ (m + 1) * V := Nat.mul_le_mul_left _ hD
   rw [← Nat.mul_assoc, ← Nat.pow_add, show m + 1 + (n - 1) = m + n by omega] at h2
   have h3 : A * 2 ^ s < 4294967296 ^ (m + n) * 2147483648 := Nat.lt_of_le_of_lt (Nat.mul_le_mul_left _ hp) (Nat.mul_lt_mul_of_pos_right hA (by decide))
   omega
 ·simp [List.getD_eq_getElem?_getD, List.getElem?_replicate]
  split <;> rfl
theorem lp {ls S : List Nat} {s : Nat} (_hc : Canon ls) (hL : Lim ls) (hn : 1 ≤ ls.length) (hS : S.length = ls.length + 1) (lS : Lim S) (hN : natOf S = natOf ls * 2 ^ s) (h1 : 2147483648 ≤ ls.getD (ls.length - 1) 0 * 2 ^ s) (h2 : ls.getD (ls.length - 1) 0 * 2 ^ s < 4294967296) (hs : s ≤ 31) :
  natOf (S.take ls.length) = natOf ls * 2 ^ s ∧ 2147483648 ≤ (S.take ls.length).getD (ls.length - 1) 0 ∧ natOf ls * 2 ^ s < 4294967296 ^ ls.length ∧ 4294967296 ^ (ls.length - 1) * 2147483648 ≤ natOf ls * 2 ^ s := by
 obtain ⟨n, hn'⟩ : ∃ n, ls.length = n + 1 := ⟨ls.length - 1, by omega⟩
 rw [hn'] at hS h1 h2 ⊢
 rw [Nat.add_sub_cancel] at h1 h2 ⊢
 have e := cI ls (k := n) (by omega)
 rw [cx (by omega), List.drop_of_length_le (by omega)] at e
 simp only [natOf, Nat.mul_zero, Nat.add_zero] at e
 have hlow := b9 (hL.take n)
 rw [List.length_take, hn', Nat.min_eq_left (by omega)] at hlow
 generalize ls.getD n 0 = x at *
 generalize natOf (ls.take n) = y at *
 have hP : 0 < 2 ^ s := Nat.two_pow_pos s
 have hdiv : (x + 1) * 2 ^ s ≤ 4294967296 := by
  have hb : (4294967296 : Nat) = 2 ^ (32 - s) * 2 ^ s := by rw [← Nat.pow_add, show 32 - s + s = 32 by omega]
  have : x < 2 ^ (32 - s) := Nat.lt_of_mul_lt_mul_right (a := 2 ^ s) (by rw [← hb]; exact h2)
  rw [hb]; exact Nat.mul_le_mul_right _ this
 have g1 : natOf ls * 2 ^ s < 4294967296 ^ (n + 1) := by
  rw [e, Nat.pow_succ]
  have : (y + 4294967296 ^ n * x) + 1 ≤ 4294967296 ^ n * (x + 1) := by rw [Nat.mul_add]; omega
  have h3 := Nat.mul_le_mul_right (2 ^ s) this
  have h4 : 4294967296 ^ n * ((x + 1) * 2 ^ s) ≤ 4294967296 ^ n * 4294967296 := Nat.mul_le_mul_left _ hdiv
  rw [← Nat.mul_assoc] at h4
  rw [Nat.add_mul _ 1] at h3
  omega
 have g2 : 4294967296 ^ n * 2147483648 ≤ natOf ls * 2 ^ s := by
  rw [e]
  have : 4294967296 ^ n * 2147483648 ≤ 4294967296 ^ n * (x * 2 ^ s) := Nat.mul_le_mul_left _ h1
  rw [Nat.add_mul, Nat.mul_assoc]; omega
 have hS0 : natOf S = natOf (S.take (n + 1)) + S.getD (n + 1) 0 * 4294967296 ^ (n + 1) := by
  have := cI S (k := n + 1) (by omega)
  rw [cx (by omega), List.drop_of_length_le (by omega)] at this
  simp only [natOf, Nat.mul_zero, Nat.add_zero] at this
  rw [this, Nat.mul_comm (4294967296 ^ (n + 1))]
 have hz : S.getD (n + 1) 0 = 0 := by
  rcases Nat.eq_zero_or_pos (S.getD (n + 1) 0) with h | h
  ·exact h
  ·exfalso
   have : 1 * 4294967296 ^ (n + 1) ≤ S.getD (n + 1) 0 * 4294967296 ^ (n + 1) := Nat.mul_le_mul_right _ h
   omega
 rw [hz, Nat.zero_mul, Nat.add_zero] at hS0
 refine ⟨by omega, ?_, g1, g2⟩
 have hT : Lim (S.take (n + 1)) := lS.take _
 have e2 := cI (S.take (n + 1)) (k := n) (by rw [List.length_take]; omega)
 rw [cx (by rw [List.length_take]; omega), List.drop_of_length_le (by rw [List.length_take]; omega)] at e2
 simp only [natOf, Nat.mul_zero, Nat.add_zero] at e2
 have hlow2 := b9 (hT.take n)
 rw [List.length_take, List.length_take] at hlow2
 rw [show min n (min (n + 1) S.length) = n by omega] at hlow2
 rcases Nat.lt_or_ge ((S.take (n + 1)).getD n 0) 2147483648 with h | h
 ·exfalso
  have : 4294967296 ^ n * ((S.take (n + 1)).getD n 0 + 1) ≤ 4294967296 ^ n * 2147483648 := Nat.mul_le_mul_left _ h
  rw [Nat.mul_add] at this
  omega
 ·exact h
theorem lu {ls : List Nat} {a : Option Addr} {c : Nat} {w : World} (h : Limbs w a c ls) (h0 : 0 < ls.length) : CallsR Try.prog 53 #[.slice a ls.length c] w fun v w' =>
  ∃ g c', v = .slice (some ⟨g, 0, none⟩) ls.length c' ∧ Own w' w.heap.size 49 1 (some ⟨g, 0, none⟩) ls.length c' (limbsL ls) ∧ Ex w w' := by
 have hlen := h.len
 obtain ⟨g0, o0, rfl⟩ := h.sl.plain (by simpa using h0)
 refine aJ (args := [_]) Try.func53 rfl rfl ?_
 repeat' (first|refine jt rfl rfl ?_|refine ni (fun g w1 hn1 => ⟨fun _ _ => trivial, ?_⟩)|refine ai rfl ?_|refine aa ?_|refine ao ?_|refine ah rfl ?_|refine ae ?_|refine aA rfl ?_|refine aI ?_)
 have hs1 := h.sl.ext hn1.ex
 refine fC (z := .int .u32 0) (s := 1) (vs := []) (lo := w.heap.size) (news := limbsL ls) rfl rfl rfl rfl (hn1.blk.own rfl (Nat.zero_le _) hn1.lo) hs1 (h.sl.plain (by simp; omega)) (by simp) (kr (fun _ => rfl) _) (by omega) (by omega) hn1.ex.size ?_
 intro a' c' w2 ho hg hA
 refine ⟨fun _ _ => trivial, ?_⟩
 rw [Nat.zero_add] at ho ⊢
 have hE : Ex w w2 := gI hg hn1.ex (by rintro _ ⟨⟩; exact hn1.lo)
 repeat' (first|refine ai rfl ?_|refine aa ?_|refine ae ?_|refine aT ?_)
 obtain ⟨g', rfl⟩ : ∃ g', a' = some ⟨g', 0, none⟩ := by
  rcases ho.2 with ⟨e, e'⟩ | ⟨g', cp, cur, e, _⟩
  ·omega
  ·cases e; exact ⟨_, rfl⟩
 exact bF rfl (rt rfl) ⟨_, c', rfl, ho, hE⟩
end Go.Proofs.Ytppipmkpmmdcjaa
namespace Go.Proofs.Ytppipmkpmmdcjaa
open Go.W Go.LM
def RetQR (w : World) (q r : Nat) (v : Value) (w' : World) : Prop := ∃ a1 c1 l1 a2 c2 l2, v = .tuple #[.slice a1 (List.length l1) c1, .slice a2 (List.length l2) c2] ∧ Limbs w' a1 c1 l1 ∧ Limbs w' a2 c2 l2 ∧ Canon l1 ∧ Canon l2 ∧ natOf l1 = q ∧ natOf l2 = r ∧
 (∀ ad, a1 = some ad → w.heap.size ≤ ad.block) ∧ (∀ ad, a2 = some ad → w.heap.size ≤ ad.block) ∧ Ex w w'
theorem jw {la lb : List Nat} (ha : Lim la) (cb : Canon lb) (h : natOf lb ≤ natOf la) : lb.length ≤ la.length := by
 rcases Nat.lt_or_ge la.length lb.length with h' | h'
 ·have := dW ha cb h'; omega
 ·exact h'
set_option maxHeartbeats 2000000 in
theorem lv {la lb : List Nat} {a b : Option Addr} {c d : Nat} {w : World} (ha : Limbs w a c la) (hb : Limbs w b d lb) (ca : Canon la) (cb : Canon lb) (hpos : 0 < natOf lb) (hlen : la.length < 17592186044416) :
  CallsR Try.prog 69 #[.slice a la.length c, .slice b lb.length d] w (RetQR w (natOf la / natOf lb) (natOf la % natOf lb)) := by
 by_cases hsm : la.length ≤ 2 ∧ natOf lb ≤ natOf la
 ·refine (gO ha hb ca cb hsm.1 hpos hsm.2).mono fun v w' h => ?_
  obtain ⟨a1, c1, a2, c2, h1, h2, h3, h4, h5, h6⟩ := h
  exact ⟨a1, c1, _, a2, c2, _, h1, h2, h3, cK _, cK _, cR, cR, h4, h5, h6⟩
 refine aJ (args := [_, _]) Try.func69 rfl rfl ?_
 repeat' (first|refine ai rfl ?_|refine aa ?_|refine ao ?_|refine ah rfl ?_|refine ae ?_|refine aC ?_)
 refine ax (cZ ha hb ca cb) rfl ?_
 rintro v w1 ⟨rfl, hE1⟩
 refine ⟨fun _ _ => trivial, ?_⟩
 have hcmp : cmpZ (natOf la) (natOf lb) < 0 ↔ natOf la < natOf lb := by
  have := @nh (natOf la) (natOf lb)
  omega
 have ha1 := ha.ext hE1
 have hb1 := hb.ext hE1
 repeat' (first|refine ai rfl ?_|refine aa ?_|refine ao ?_|refine ah rfl ?_|refine ae ?_|refine bn rfl ?_|refine aR rfl (fun hc => ?_) (fun hc => ?_)|refine aM ?_|refine aI ?_)
 ·
  refine ax (fL ha1) rfl ?_
  rintro v w2 ⟨a2, c2, rfl, hL2, hf2, hE2⟩
  refine ⟨fun _ _ => trivial, ?_⟩
  repeat' (first|refine ai rfl ?_|refine aa ?_|refine ae ?_|refine aT ?_|refine bw ?_|refine du ?_)
  have hlt := hcmp.1 (by assumption)
  have s1 := hE1.size
  exact fv rfl (rt rfl) (rt rfl) ⟨none, 0, [], a2, c2, la, rfl, Limbs.nil _ _ _, hL2, rfl, ca, (Nat.div_eq_of_lt hlt).symm, (Nat.mod_eq_of_lt hlt).symm, fun ad e => (nomatch e), fun ad e => by have := hf2 ad e; omega, hE1.trans hE2⟩
 ·have := mt hcmp.2 (by assumption); omega
 all_goals (
  have hge : natOf lb ≤ natOf la := by have := mt hcmp.2 (by assumption); omega
  have hl2 : 2 < la.length := by omega
  have hll := jw ha.lim cb hge
  have hbn : lb ≠ [] := fun e => by rw [e] at hpos; simp [natOf] at hpos
  have hb0 : 1 ≤ lb.length := List.length_pos_iff.2 hbn)
 ·
  have hlb1 : lb.length = 1 := by omega
  refine ax (lu ha1 (by omega)) rfl ?_
  rintro v w2 ⟨g2, c2, rfl, hO2, hE2⟩
  refine ⟨fun _ _ => trivial, ?_⟩
  have hbn0 : natOf lb = lb.getD 0 0 := by
   match lb, hlb1 with
   | [x], _ => simp [natOf]
  have hbl := hb.lim.getD 0
  repeat' (first|(refine aB (j := 0) rfl rfl (hb.sl.plain (by simp; omega)) (by omega) ?_)|refine bO rfl ((hb1.ext hE2).sl) (by omega) ?_|refine ai rfl ?_|refine aa ?_|refine ao ?_|refine ah rfl ?_|refine ae ?_)
  have s1 := hE1.size
  refine ax (gV hO2 ha.lim (b := lb.getD 0 0) (by omega) hbl (by omega)) rfl ?_
  rintro v w3 ⟨L, rfl, hC3, hO3, hL3, hLl, hN3⟩
  refine ⟨fun _ _ => trivial, ?_⟩
  repeat' (first|refine ai rfl ?_|refine aa ?_|refine ao ?_|refine ah rfl ?_|refine ae ?_)
  have hg2 := (hO2.lo _ rfl).1
  have hE3 : Ex w w3 := (hE1.trans hE2).chg hC3 (by simp only at hg2; omega)
  have hlimbs : Limbs w3 (some ⟨g2, 0, none⟩) c2 L := ⟨hO3.sl, by rw [hLl]; exact hO3.cap, hL3, by omega⟩
  rw [← hLl]
  refine ax (bL hlimbs) rfl ?_
  rintro v w4 ⟨rfl, hE4⟩
  refine ⟨fun _ _ => trivial, ?_⟩
  have hm := Nat.mod_lt (natOf la) (show 0 < lb.getD 0 0 by omega)
  repeat' (first|refine ip rfl (by omega) ?_|refine ai rfl ?_)
  refine ax (cM (n := natOf la % lb.getD 0 0) (by omega) _) rfl ?_
  rintro v w5 ⟨a5, c5, rfl, hL5, hf5, hE5⟩
  refine ⟨fun _ _ => trivial, ?_⟩
  repeat' (first|refine ai rfl ?_|refine aa ?_|refine ae ?_|refine aT ?_|refine bw ?_|refine du ?_)
  have s4 := hE3.size
  have s5 := hE4.size
  refine fv rfl (rt rfl) (rt rfl) ⟨_, c2, trimL L, a5, c5, _, rfl, ((hlimbs.ext hE4).ext hE5).trim, hL5, bE _, cK _, ?_, ?_, fun ad e => ?_, fun ad e => by have := hf5 ad e; omega, (hE3.trans hE4).trans hE5⟩
  ·rw [bu, hN3, hbn0]
  ·rw [cR, hbn0]
  ·cases e; simp only at hg2 ⊢; omega
 ·
  obtain ⟨m, hm⟩ : ∃ m, la.length = m + lb.length := ⟨la.length - lb.length, by omega⟩
  obtain ⟨n, hn⟩ : ∃ n, lb.length = n := ⟨_, rfl⟩
  have hn2 : 2 ≤ n := by
   rcases Nat.lt_or_ge n 2 with h | h
   ·exact absurd (show ((lb.length : Nat) : Int) = 1 by omega) (by assumption)
   ·exact h
  have htop0 : 0 < lb.getD (lb.length - 1) 0 := by
   have h1 := je cb hbn
   have e := cI lb (k := lb.length - 1) (by omega)
   rw [cx (by omega), List.drop_of_length_le (by omega)] at e
   simp only [natOf, Nat.mul_zero, Nat.add_zero] at e
   have h2 := b9 (hb.lim.take (lb.length - 1))
   rw [List.length_take, Nat.min_eq_left (by omega)] at h2
   rcases Nat.eq_zero_or_pos (lb.getD (lb.length - 1) 0) with h | h
   ·rw [h, Nat.mul_zero] at e; omega
   ·exact h
  have htopl := hb.lim.getD (lb.length - 1)
  have hbp := hb.sl.plain (by simp; omega)
  repeat' (first|refine jv (m := lb.length) (m' := 1) rfl rfl (by omega) (by omega) ?_|refine aB (j := lb.length - 1) rfl rfl hbp (by omega) ?_|refine bO rfl hb1.sl (by omega) ?_)
  refine ax (nQ htopl htop0 _) rfl ?_
  rintro v w2 ⟨s, rfl, rfl, hs, ht1, ht2⟩
  refine ⟨fun _ _ => trivial, ?_⟩
  repeat' (first|refine ai rfl ?_|refine aa ?_|refine ao ?_|refine ah rfl ?_|refine ae ?_)
  refine ax (fM hb1 hs (by omega)) rfl ?_
  rintro v w3 ⟨g3, V, rfl, hg3, hB3, hVl, hV, hVN, _, hE3⟩
  refine ⟨fun _ _ => trivial, ?_⟩
  obtain ⟨t1, t2, t3, t4⟩ := lp cb hb.lim hb0 hVl hV hVN ht1 ht2 hs
  repeat' (first|refine il (n := (lb.length : Int)) rfl rfl (by omega) (by omega) ?_|refine ai rfl ?_|refine aa ?_|refine ao ?_|refine ah rfl ?_|refine ae ?_|refine bn rfl ?_)
  have ha3 := ha1.ext hE3
  refine ax (fM ha3 hs (by omega)) rfl ?_
  rintro v w4 ⟨g4, R, rfl, hg4, hB4, hRl, hR, hRN, _, hE4⟩
  refine ⟨fun _ _ => trivial, ?_⟩
  have q1 : ((m + 1 : Nat) : Int) = (la.length : Int) - (lb.length : Int) + 1 := by omega
  have q2 : ((m : Nat) : Int) = (la.length : Int) - (lb.length : Int) := by omega
  repeat' (first|refine dh rfl rfl (by omega) (by omega) ?_|refine bi rfl rfl (by omega) (by omega) ?_|(rw [← q1])|refine fT (k := .u32) (n := m + 1) rfl rfl (by omega) (by omega) (fun g5 w5 hn5 => ⟨fun _ _ => trivial, ?_⟩)|(rw [← q2])|refine ai rfl ?_|refine aa ?_|refine ao ?_|refine ah rfl ?_|refine ae ?_|refine bn rfl ?_|refine aC ?_)
  have hB5 : Blk w5 g5 49 (limbsL (List.replicate (m + 1) 0)) := hn5.blk
  have s1 := hE1.size
  have s3 := hE3.size
  have s4 := hE4.size
  have s5 := hn5.ex.size
  have l3 := hB3.lt
  have l4 := hB4.lt
  have l5 := hn5.lo
  have d34 : g3 ≠ g4 := by omega
  have d35 : g3 ≠ g5 := by omega
  have d45 : g4 ≠ g5 := by omega
  have hVlt := b9 hV
  have hst := DvJ.start (A := natOf la) (D := natOf lb) (V := natOf lb * 2 ^ s) (m := m) (n := lb.length) hRN rfl (by omega) hR hb0 (by rw [← hm]; exact b9 ha.lim) t4 hs
  have hV0 : 0 < natOf lb * 2 ^ s := Nat.mul_pos hpos (Nat.two_pow_pos s)
  have hVtl : (V.take lb.length).length = lb.length := by rw [List.length_take]; omega
  refine bh (ι := Nat × List Nat × List Nat) [12, 80, 81, 82, 83, 84, 85, 86, 87, 88, 89, 90, 91, 92, 93, 94, 95, 96] (fun t => [(12, .int .i64 ((t.1 : Int) - 1))])
   (fun t w' => DvJ (natOf la * 2 ^ s) (natOf lb * 2 ^ s) lb.length m t.1 t.2.1 t.2.2 ∧ Blk w' g3 49 (limbsL V) ∧ Blk w' g4 49 (limbsL t.2.1) ∧ Blk w' g5 49 (limbsL t.2.2) ∧ Ex w w') (fun t => t.1)
   (m + 1, R, List.replicate (m + 1) 0) ⟨by show Value.int .i64 (m : Int) = Value.int .i64 (((m + 1 : Nat) : Int) - 1); rw [show ((m + 1 : Nat) : Int) - 1 = (m : Int) by omega], trivial⟩
   ⟨hst, (hB3.ext hE4).ext hn5.ex, hB4.ext hn5.ex, hB5, ((hE1.trans hE3).trans hE4).trans hn5.ex⟩ ?_
  rintro ⟨k, R1, Q1⟩ ξ w6 ⟨hJ, hB3, hB4, hB5, hEx⟩
  simp only at hJ hB4 hB5
  have hkm := hJ.le
  show CW _ _ _ _ (over [(12, .int .i64 ((k : Int) - 1))] _) w6
  repeat' (first|refine ai rfl ?_|refine aa ?_|refine ao ?_|refine ah rfl ?_|refine ae ?_|refine bn rfl ?_|refine bi rfl rfl (by omega) (by omega) ?_|refine aR rfl (fun hc => ?_) (fun hc => ?_)|refine aC ?_|refine aW ?_|refine aO ?_|refine aX ?_|refine aI ?_)
  ·obtain ⟨j, rfl⟩ : ∃ j, k = j + 1 := ⟨k - 1, by omega⟩
   rw [show ((j + 1 : Nat) : Int) - 1 = (j : Int) by omega]
   obtain ⟨p1, p2, p3, p4, p5⟩ := hJ.pre t3
   have hrl := hJ.rl
   have hVL : Limbs w6 (some ⟨g3, 0, none⟩) (lb.length + 1) (V.take lb.length) := ⟨by unfold limbsL; rw [List.map_take]; exact hB3.sl.take _, by omega, hV.take _, by omega⟩
   repeat' (first|refine jW (l := j) (h := j + lb.length + 1) rfl rfl rfl (by omega) (by omega) (by omega) ?_|refine ai rfl ?_)
   rw [show (0 + j * 1 : Nat) = (R1.take j).length by omega, show j + lb.length + 1 - j = lb.length + 1 by omega]
   refine ax (iO (S := (R1.drop j).take (lb.length + 1)) (H := R1.drop (j + (lb.length + 1))) (by rw [← p5]; exact hB4) p3 ((Lim.drop hJ.lr j).take _) hVL hVtl (by omega) t2 (by rw [t1]; exact p1) (fun ad e => by cases e; exact d34)) rfl ?_
   rintro v w7 ⟨S', rfl, hC7, hB7, hSl, hSL, hSN⟩
   refine ⟨fun _ _ => trivial, ?_⟩
   have hQl := hJ.ql
   rw [t1] at hSN ⊢
   repeat' (first|refine aB (j := j) rfl rfl ⟨_, _, rfl⟩ (by omega) ?_|refine dK rfl rfl (hB5.chg hC7 (Ne.symm d45)) (by omega) (fun w8 hc8 hb8 => ⟨fun _ _ => trivial, ?_⟩)|refine ai rfl ?_|refine aa ?_|refine ah rfl ?_|refine ae ?_|refine dh rfl rfl (by omega) (by omega) ?_|refine aM ?_)
   have sx := hEx.size
   refine ⟨⟨(j, _, _), ⟨hJ.step t3 hV0 hSl hSL hSN, (hB3.chg hC7 d34).chg hc8 d35, hB7.chg hc8 d45, hb8, (hEx.chg hC7 (by omega)).chg hc8 (by omega)⟩, Nat.lt_succ_self j, rfl, trivial⟩, (by (repeat (first|exact aF _ _ _|refine ay rfl ?_|refine av rfl ?_|refine aj rfl ?_|refine ak rfl ?_)))⟩
  ·obtain rfl : k = 0 := by omega
   obtain ⟨f1, f2⟩ := hJ.fin
   rw [Nat.mul_div_mul_right _ _ (Nat.two_pow_pos s)] at f1
   rw [Nat.mul_mod_mul_right] at f2
   have hrl := hJ.rl
   have hql := hJ.ql
   have e4 : la.length + 1 = R1.length := by omega
   rw [e4]
   refine ax (iN hB4 hJ.lr hs (by omega)) rfl ?_
   rintro v w7 ⟨hC7, hB7⟩
   refine ⟨fun _ _ => trivial, ?_⟩
   repeat' (first|refine ai rfl ?_|refine aa ?_|refine ao ?_|refine ah rfl ?_|refine ae ?_)
   have hE7 := hEx.chg hC7 (by omega)
   have hB57 := hB5.chg hC7 (Ne.symm d45)
   have hLQ : Limbs w7 (some ⟨g5, 0, none⟩) (m + 1) Q1 := ⟨hB57.sl, by omega, hJ.lq, by omega⟩
   rw [show m + 1 = Q1.length by omega] at hLQ ⊢
   refine ax (bL hLQ) rfl ?_
   rintro v w8 ⟨rfl, hE8⟩
   refine ⟨fun _ _ => trivial, ?_⟩
   have hsl := jr s R1
   have hLR : Limbs w8 (some ⟨g4, 0, none⟩) R1.length (shrL s R1) := ⟨(hB7.ext hE8).sl, by omega, lk s R1, by omega⟩
   repeat' (first|refine ai rfl ?_)
   rw [← hsl] at hLR ⊢
   refine ax (bL hLR) rfl ?_
   rintro v w9 ⟨rfl, hE9⟩
   refine ⟨fun _ _ => trivial, ?_⟩
   repeat' (first|refine ai rfl ?_|refine aa ?_|refine ae ?_|refine aT ?_)
   refine fv rfl (rt rfl) (rt rfl) ⟨_, _, trimL Q1, _, _, trimL (shrL s R1), rfl, ((hLQ.ext hE8).ext hE9).trim, (hLR.ext hE9).trim, bE _, bE _, ?_, ?_, fun ad e => ?_, fun ad e => ?_, (hE7.trans hE8).trans hE9⟩
   ·rw [bu, f1]
   ·rw [bu, js (by omega) hJ.lr, f2, Nat.mul_div_cancel _ (Nat.two_pow_pos s)]
   ·cases e; simp only; omega
   ·cases e; simp only; omega
end Go.Proofs.Ytppipmkpmmdcjaa
namespace Go.LM
theorem mD {N D : Nat} (hD : 0 < D) :
  ((N : Int) / (D : Int) = ((N / D : Nat) : Int) ∧ (N : Int) % (D : Int) = ((N % D : Nat) : Int)) ∧
  ((N : Int) / (-(D : Int)) = -((N / D : Nat) : Int) ∧ (N : Int) % (-(D : Int)) = ((N % D : Nat) : Int)) ∧
  (N % D = 0 → (-(N : Int)) / (D : Int) = -((N / D : Nat) : Int) ∧ (-(N : Int)) % (D : Int) = 0 ∧ (-(N : Int)) / (-(D : Int)) = ((N / D : Nat) : Int) ∧ (-(N : Int)) % (-(D : Int)) = 0) ∧
  (N % D ≠ 0 → (-(N : Int)) / (D : Int) = -((N / D : Nat) : Int) - 1 ∧ (-(N : Int)) % (D : Int) = (D : Int) - ((N % D : Nat) : Int) ∧ (-(N : Int)) / (-(D : Int)) = ((N / D : Nat) : Int) + 1 ∧ (-(N : Int)) % (-(D : Int)) = (D : Int) - ((N % D : Nat) : Int)) := by
 have h1 := Nat.div_add_mod N D
 have h2 := Nat.mod_lt N hD
 have un : ∀ {x y q r : Int}, y ≠ 0 → 0 ≤ r → r < y.natAbs → x = y * q + r → x / y = q ∧ x % y = r := by
  intro x y q r hy h0 hr he
  have hm : x % y = r := by
   rw [he, Int.mul_add_emod_self_left]
   rcases Int.lt_or_lt_of_ne hy with h | h
   ·rw [← Int.emod_neg]; exact Int.emod_eq_of_lt h0 (by omega)
   ·exact Int.emod_eq_of_lt h0 (by omega)
  refine ⟨?_, hm⟩
  have := Int.mul_ediv_add_emod x y
  rw [hm] at this
  have h3 : y * (x / y) = y * q := by omega
  exact Int.eq_of_mul_eq_mul_left hy h3
 generalize N / D = q at *
 generalize N % D = r at *
 have hN : (N : Int) = (D : Int) * q + r := by rw [← h1]; simp
 refine ⟨un (by omega) (by omega) (by omega) hN, un (by omega) (by omega) (by omega) (by rw [hN]; grind), fun h0 => ?_, fun h0 => ?_⟩
 ·subst h0
  have a := un (x := -(N : Int)) (y := (D : Int)) (q := -(q : Int)) (r := 0) (by omega) (by omega) (by omega) (by rw [hN]; grind)
  have b := un (x := -(N : Int)) (y := -(D : Int)) (q := (q : Int)) (r := 0) (by omega) (by omega) (by omega) (by rw [hN]; grind)
  exact ⟨a.1, a.2, b.1, b.2⟩
 ·have a := un (x := -(N : Int)) (y := (D : Int)) (q := -(q : Int) - 1) (r := (D : Int) - r) (by omega) (by omega) (by omega) (by rw [hN]; grind)
  have b := un (x := -(N : Int)) (y := -(D : Int)) (q := (q : Int) + 1) (r := (D : Int) - r) (by omega) (by omega) (by omega) (by rw [hN]; grind)
  exact ⟨a.1, a.2, b.1, b.2⟩
end Go.LM
namespace Go.W
structure IH where
 neg : Bool
 sd : SD
abbrev ih0 : IH := ⟨false, sd0⟩
def IH.cells (h : IH) : List Value := [.bool h.neg, .slice h.sd.a h.sd.len h.sd.cap]
def IH.val (h : IH) : Value := .agg h.cells.toArray
def setF {α : Type} (f : Nat → α) (i : Nat) (x : α) : Nat → α := fun j => if j = i then x else f j
theorem aK {α : Type} (f : Nat → α) (i : Nat) (x : α) : setF f i x i = x := by simp [setF]
theorem aN {α : Type} (f : Nat → α) {i j : Nat} (x : α) (h : j ≠ i) : setF f i x j = f j := by simp [setF, h]
def rowC (n : Nat) (h : Nat → IH) : List Value := (List.range n).flatMap fun i => (h i).cells
def topC (n : Nat) (s : Nat → SD) : List Value := (List.range n).map fun i => (s i).val
theorem iw (h : Nat → IH) : rowC 0 h = [] := rfl
theorem cO (n : Nat) (h : Nat → IH) : rowC (n + 1) h = rowC n h ++ (h n).cells := by
 unfold rowC; rw [List.range_succ, List.flatMap_append]; simp
theorem bT : ∀ (n : Nat) (h : Nat → IH), (rowC n h).length = n * 2
 | 0, _ => rfl
 | n + 1, h => by rw [cO, List.length_append, bT n h]; simp [IH.cells]; omega
theorem fh {n : Nat} {h h' : Nat → IH} (e : ∀ i, i < n → h i = h' i) : rowC n h = rowC n h' := by
 induction n with
 | zero => rfl
 | succ n ih => rw [cO, cO, ih (fun i hi => e i (by omega)), e n (by omega)]
theorem jx : ∀ {n : Nat} {h : Nat → IH} {i : Nat}, i < n → (rowC n h)[i * 2]? = some (.bool (h i).neg) ∧ (rowC n h)[i * 2 + 1]? = some (.slice (h i).sd.a (h i).sd.len (h i).sd.cap)
 | n + 1, h, i, hi => by
  have hl := bT n h
  rw [cO]
  by_cases hn : i < n
  ·rw [List.getElem?_append_left (by omega), List.getElem?_append_left (by omega)]
   exact jx hn
  ·obtain rfl : i = n := by omega
   rw [List.getElem?_append_right (by omega), List.getElem?_append_right (by omega), hl]
   simp [IH.cells]
theorem jy : ∀ {n : Nat} {h : Nat → IH} {i : Nat} (x : IH), i < n → (rowC n h).take (i * 2) ++ x.cells ++ (rowC n h).drop (i * 2 + 2) = rowC n (setF h i x)
 | n + 1, h, i, x, hi => by
  have hl := bT n h
  have hc : ∀ y : IH, y.cells.length = 2 := fun _ => rfl
  rw [cO, cO]
  by_cases hn : i < n
  ·rw [List.take_append_of_le_length (by omega), List.drop_append_of_le_length (by omega), ← jy x hn, aN h x (by omega)]
   simp only [List.append_assoc]
  ·obtain rfl : i = n := by omega
   rw [← hl, List.take_left, List.drop_eq_nil_of_le (by simp [hl, hc]), List.append_nil, aK,
    fh (h' := h) (fun j hj => aN h x (by omega))]
theorem j6 {n : Nat} {h : Nat → IH} {v : Value} (hv : v ∈ rowC n h) : (∃ b, v = .bool b) ∨ ∃ a l c, v = .slice a l c := by
 unfold rowC at hv
 rw [List.mem_flatMap] at hv
 obtain ⟨i, _, hi⟩ := hv
 simp only [IH.cells, List.mem_cons, List.not_mem_nil, or_false] at hi
 rcases hi with e | e
 ·exact .inl ⟨_, e⟩
 ·exact .inr ⟨_, _, _, e⟩
theorem ly (n : Nat) (h : Nat → IH) : (rowC n h).all Value.oneCell' = true := by
 rw [List.all_eq_true]; intro v hv
 rcases j6 hv with ⟨b, rfl⟩ | ⟨a, l, c, rfl⟩ <;> rfl
theorem j7 (n : Nat) : (madeCells (Value.cells (.agg #[.bool false, .slice none 0 0])) (n * 2)).toList = rowC n fun _ => ih0 := by
 induction n with
 | zero => simp [madeCells, iw]
 | succ n ih =>
  rw [cO, ← ih]
  simp only [madeCells, Array.toList_map, Array.toList_range]
  rw [show (n + 1) * 2 = n * 2 + 1 + 1 by omega, List.range_succ, List.range_succ]
  simp only [List.map_append, List.append_assoc, List.map_cons, List.map_nil, List.cons_append, List.nil_append]
  have a1 : n * 2 % 2 = 0 := by omega
  have a2 : (n * 2 + 1) % 2 = 1 := by omega
  simp [a1, a2, IH.cells, Value.cells]
theorem bJ (n : Nat) (s : Nat → SD) : (topC n s).length = n := by simp [topC]
theorem cg {n : Nat} {s s' : Nat → SD} (e : ∀ i, i < n → s i = s' i) : topC n s = topC n s' :=
 List.map_congr_left fun i hi => by rw [e i (List.mem_range.1 hi)]
theorem eV {n : Nat} {s : Nat → SD} {i : Nat} (hi : i < n) : (topC n s)[i]? = some (s i).val := by
 simp [topC, hi]
theorem oX {n : Nat} {s : Nat → SD} {i : Nat} (x : SD) : (topC n s).set i x.val = topC n (setF s i x) := by
 refine List.ext_getElem? fun j => ?_
 by_cases hj : j < n
 ·by_cases h : j = i
  ·subst h
   rw [List.getElem?_set_self (by rw [bJ]; omega), eV hj, aK]
  ·rw [List.getElem?_set_ne (fun e => h e.symm), eV hj, eV hj, aN s x h]
 ·rw [List.getElem?_eq_none (by rw [List.length_set, bJ]; omega), List.getElem?_eq_none (by rw [bJ]; omega)]
theorem lz (n : Nat) (s : Nat → SD) : (topC n s).all Value.oneCell' = true := by
 rw [List.all_eq_true]; intro v hv
 simp only [topC, List.mem_map] at hv
 obtain ⟨i, _, rfl⟩ := hv; rfl
theorem j9 {n : Nat} {s : Nat → SD} {v : Value} (hv : v ∈ topC n s) : ∃ a l c, v = .slice a l c := by
 simp only [topC, List.mem_map] at hv
 obtain ⟨i, _, rfl⟩ := hv; exact ⟨_, _, _, rfl⟩
theorem nR (n : Nat) : (List.replicate n sd0).map SD.val = topC n fun _ => sd0 := by
 simp [topC, List.map_const']
theorem Blk.at {w : World} {g T j : Nat} {cs : List Value} (h : Blk w g T cs) : w.cell? ⟨g, j, none⟩ = cs[j]? := by
 unfold Blk at h; simp [World.cell?, h]
theorem Blk.mem {w : World} {g T j : Nat} {cs : List Value} {v : Value} (h : Blk w g T cs) (hv : w.cell? ⟨g, j, none⟩ = some v) : v ∈ cs := by
 rw [h.at] at hv; exact List.mem_of_getElem? hv
theorem Sl.off {w : World} {a : Option Addr} {vs cs : List Value} {g T : Nat} (h : Sl w a vs) (hb : Blk w g T cs) {j : Nat} (hj : j < vs.length) (hn : vs.getD j undef ∉ cs) : ∀ ad, a = some ad → ad.block ≠ g := by
 rintro ad rfl e
 obtain ⟨g', o, h'⟩ := h.plain (by omega)
 cases h'
 simp only at e
 subst e
 exact hn (hb.mem (h.get j hj))
section
variable {P : Program} {S : World → Prop} {ops : List Oper} {K : Env → World → Prop} {rest : List (Oper × Option Bool)} {ρ : Env} {w : World} {b : Option Bool} {kf : Bool} {d : Nat} {dst : Option Nat} {T T' : TypeId} {pos : String} {af : Array Edge}
theorem iy {x y : Operand} {k : IntKind} {m m' : Int} {T'' : TypeId} (hx : ev ρ x = .int k m) (hy : ev ρ y = .int k m') (hd : m' < m) (h : RR P S ops K rest (upd ρ d (.bool false)) w) : RR P S ops K ((⟨some d, .binOp .leq T' x y T'', T, pos, af, none⟩, b) :: rest) ρ w :=
 qC hx hy (by rw [decide_eq_false (by omega)]; exact h)
theorem dS {T1 E y n : Nat} {x1 x2 : Operand} [hT : Slc P T1 E 2 y] [hz : Zro P E (.agg #[.bool false, .slice none 0 0])] (h1 : ev ρ x1 = .int .i64 n) (h2 : ev ρ x2 = .int .i64 n) (hb : y * n ≤ 281474976710656) (hm : n ≤ 9223372036854775807)
  (h : ∀ g w', New w w' g E (rowC n fun _ => ih0) → (kf = true → S w → S w') ∧ RR P S ops K rest (upd ρ d (.slice (some ⟨g, 0, none⟩) n n)) w') :
  RR P S ops K ((⟨some d, .makeSlice T1 x1 x2, T, pos, af, none⟩, some kf) :: rest) ρ w :=
 oA h1 h2 hb hm (fun g w' hn => h g w' (by rw [← j7]; exact hn))
theorem ep {T1 E y n : Nat} {x1 x2 : Operand} [hT : Slc P T1 E 1 y] [hz : Zro P E (.slice none 0 0)] (h1 : ev ρ x1 = .int .i64 n) (h2 : ev ρ x2 = .int .i64 n) (hb : y * n ≤ 281474976710656) (hm : n ≤ 9223372036854775807)
  (h : ∀ g w', New w w' g E (topC n fun _ => sd0) → (kf = true → S w → S w') ∧ RR P S ops K rest (upd ρ d (.slice (some ⟨g, 0, none⟩) n n)) w') :
  RR P S ops K ((⟨some d, .makeSlice T1 x1 x2, T, pos, af, none⟩, some kf) :: rest) ρ w :=
 p6 h1 h2 hb hm (fun g w' hn => h g w' (by rw [← nR]; exact hn))
theorem aU {x ix : Operand} {a : Option Addr} {l c E y j : Nat} {k : IntKind} [hT : Slc P T' E 2 y] (hx : ev ρ x = .slice a l c) (hi : ev ρ ix = .int k (j : Int)) (ha : W.plain a)
  (h2 : j < l) (h : RR P S ops K rest (upd ρ d (.pointer (some (elt a (j * 2))))) w) :
  RR P S ops K ((⟨some d, .indexAddr T' x ix, T, pos, af, none⟩, b) :: rest) ρ w :=
 fA hx hi ha (by omega) (by omega) (by simpa using h)
theorem bp {x : Operand} {T1 : TypeId} {a : Option Addr} {j n : Nat} {f : Nat → IH} [Agg P T1 2] (hx : ev ρ x = .pointer (some (elt a (j * 2)))) (hs : Rd b S w fun w' => Sl w' a (rowC n f)) (hp : W.plain a) (hj : j < n)
  (h : RR P S ops K rest (upd ρ d (f j).val) w) : RR P S ops K ((⟨some d, .load T1 x, T, pos, af, none⟩, b) :: rest) ρ w := by
 obtain ⟨g, o, rfl⟩ := hp
 refine m8 (g := g) (o := o + j * 2) (vs := (f j).cells) (by rw [hx]; rfl) rfl (hs.imp fun w' hs => ?_) h
 have hl := bT n f
 obtain ⟨g1, g2⟩ := jx (h := f) hj
 intro i hi
 have hi2 : i < 2 := hi
 have := hs.get (j * 2 + i) (by omega)
 simp only [elt] at this
 rw [Nat.add_assoc, this, List.getD_eq_getElem?_getD]
 rcases i with _ | _ | i
 ·rw [Nat.add_zero, g1]; rfl
 ·rw [g2]; rfl
 ·omega
theorem dG {x : Operand} {T1 : TypeId} {a : Option Addr} {j n : Nat} {s : Nat → SD} [Scal P T1] (hx : ev ρ x = .pointer (some (elt a j))) (hs : Rd b S w fun w' => Sl w' a (topC n s)) (hj : j < n)
  (h : RR P S ops K rest (upd ρ d (.slice (s j).a (s j).len (s j).cap)) w) : RR P S ops K ((⟨some d, .load T1 x, T, pos, af, none⟩, b) :: rest) ρ w :=
 fB hx (hs.imp fun w' hs => by
  have := hs.get j (by rw [bJ]; exact hj)
  rw [this, List.getD_eq_getElem?_getD, eV hj]; rfl) h
theorem aS {x : Operand} {T1 : TypeId} {a a1 : Option Addr} {j n l1 c1 : Nat} {s : Nat → SD} [Scal P T1] (hx : ev ρ x = .pointer (some (elt a j))) (hs : Rd b S w fun w' => Sl w' a (topC n s)) (hj : j < n) (hv : s j = ⟨a1, l1, c1⟩)
  (h : RR P S ops K rest (upd ρ d (.slice a1 l1 c1)) w) : RR P S ops K ((⟨some d, .load T1 x, T, pos, af, none⟩, b) :: rest) ρ w :=
 dG hx hs hj (by rw [hv]; exact h)
theorem bP {x y : Operand} {T1 : TypeId} {g j n Tb : Nat} {f : Nat → IH} {u : IH} [hT : Agg P T1 2] (hx : ev ρ x = .pointer (some (elt (some ⟨g, 0, none⟩) (j * 2)))) (hy : ev ρ y = u.val)
  (hb : Blk w g Tb (rowC n f)) (hj : j < n)
  (h : ∀ w', Chg g w w' → Blk w' g Tb (rowC n (setF f j u)) → (kf = true → S w → S w') ∧ RR P S ops K rest ρ w') :
  RR P S ops K ((⟨none, .store T1 x y, T, pos, af, none⟩, some kf) :: rest) ρ w :=
 kX (n := 2) (o := j * 2) (vs := u.cells) (by rw [hx]; simp [elt]) hy rfl rfl hb (by rw [bT]; omega) (fun w' hc hb' => h w' hc (by
  rw [← jy u hj]; exact hb'))
theorem bY {x y : Operand} {T1 : TypeId} {g j n Tb : Nat} {s : Nat → SD} {u : SD} [hT : Scal P T1] (hx : ev ρ x = .pointer (some (elt (some ⟨g, 0, none⟩) j))) (hy : ev ρ y = .slice u.a u.len u.cap)
  (hb : Blk w g Tb (topC n s)) (hj : j < n)
  (h : ∀ w', Chg g w w' → Blk w' g Tb (topC n (setF s j u)) → (kf = true → S w → S w') ∧ RR P S ops K rest ρ w') :
  RR P S ops K ((⟨none, .store T1 x y, T, pos, af, none⟩, some kf) :: rest) ρ w :=
 eO (v := u.val) hx hy rfl hb (by rw [bJ]; exact hj) (fun w' hc hb' => h w' hc (by rw [← oX]; exact hb'))
end
end Go.W
namespace Go.W
theorem nS {n m : Nat} {h : Nat → IH} (hm : n ≤ m) : (rowC m h).take (n * 2) = rowC n h := by
 obtain ⟨k, rfl⟩ : ∃ k, m = n + k := ⟨m - n, by omega⟩
 clear hm
 induction k with
 | zero => rw [Nat.add_zero, List.take_of_length_le (by rw [bT]; omega)]
 | succ k ih => rw [← Nat.add_assoc, cO, List.take_append_of_le_length (by rw [bT]; omega), ih]
theorem Sl.row {w : World} {a : Option Addr} {n m : Nat} {h : Nat → IH} (hs : Sl w a (rowC m h)) (hm : n ≤ m) : Sl w a (rowC n h) := by
 rw [← nS hm]; exact hs.take _
theorem dM {n m : Nat} {f g : Nat → IH} : rowC n f ++ rowC m g = rowC (n + m) fun i => if i < n then f i else g (i - n) := by
 induction m with
 | zero => rw [iw, List.append_nil, Nat.add_zero]; exact fh fun i hi => by rw [if_pos hi]
 | succ m ih =>
  rw [← Nat.add_assoc, cO, cO, ← ih, List.append_assoc, if_neg (by omega), Nat.add_sub_cancel_left]
section
variable {P : Program} {S : World → Prop} {ops : List Oper} {K : Env → World → Prop} {rest : List (Oper × Option Bool)} {ρ : Env} {w : World} {b : Option Bool} {kf : Bool} {d : Nat} {dst : Option Nat} {T T' : TypeId} {pos : String} {af : Array Edge}
end
end Go.W
namespace Go.W
theorem nV {P : Program} {w : World} {dT ty E g n dc sc s Tb : Nat} {a : Addr} {cur cs : List Value} {i0 : TypeInfo} (hu : P.underlying dT = some (.slice E)) (hi : P.info? E = some i0) (hs : i0.size = s)
  (hb : Blk w g Tb cur) (hl : cs.length = n * s) (hsrc : ∀ j v, cs[j]? = some v → w.cell? (a.add j) = some v) (hfit : cs.length ≤ cur.length) (h1 : ∀ v ∈ cs, v.oneCell' = true) :
  (Builtin.copy_ #[dT, dT] ty #[.slice (some ⟨g, 0, none⟩) n dc, .slice (some a) n sc]).run P w = .ok (.int .i64 n) (w.setRow g (cs ++ cur.drop cs.length).toArray) := by
 have hl' := run_loadCells_list (P := P) w a cs hsrc
 have hst := run_storeCells_at P g 0 Tb cs 0 cur.toArray w hb (by simpa using hfit) h1
 simp only [Nat.add_zero, Nat.zero_add, List.take_zero, List.nil_append] at hst
 subst hs
 have e : Nat.min n n = n := Nat.min_self n
 simp [Builtin.copy_, run_underlying hu, Builtin.lenOf, Builtin.firstCells, sizeOf, typeInfo, hi, ← hl, hl', hst, e]
 rfl
section
variable {P : Program} {S : World → Prop} {ops : List Oper} {K : Env → World → Prop} {rest : List (Oper × Option Bool)} {ρ : Env} {w : World} {b : Option Bool} {kf : Bool} {d : Nat} {dst : Option Nat} {T T' : TypeId} {pos : String} {af : Array Edge}
theorem kF {T1 E s y n dc sc g Tb : Nat} {x1 x2 : Operand} {a : Option Addr} {cur cs : List Value} [hT : Slc P T1 E s y] (h1 : ev ρ x1 = .slice (some ⟨g, 0, none⟩) n dc) (h2 : ev ρ x2 = .slice a n sc) (hp : W.plain a)
  (hb : Blk w g Tb cur) (hs : Sl w a cs) (hl : cs.length = n * s) (hle : cs.length ≤ cur.length) (ho : cs.all Value.oneCell' = true)
  (h : ∀ w', Chg g w w' → Blk w' g Tb (cs ++ cur.drop cs.length) → (kf = true → S w → S w') ∧ RR P S ops K rest (updO ρ dst (.int .i64 n)) w') :
  RR P S ops K ((⟨dst, .call ⟨.builtin .copy, #[x1, x2], #[T1, T1]⟩, T, pos, af, none⟩, some kf) :: rest) ρ w := by
 refine cQ rfl ?_
 unfold OpW
 obtain ⟨i0, hi0, hzz⟩ := Option.map_eq_some_iff.1 hT.sz
 simp only [Prod.mk.injEq] at hzz
 obtain ⟨g', o, rfl⟩ := hp
 have e : ∀ n, (⟨g', o, none⟩ : Addr).add n = ⟨g', o + n, none⟩ := fun n => by unfold Addr.add; split <;> simp_all
 have hr := nV (P := P) (ty := T) (dc := dc) (sc := sc) (a := ⟨g', o, none⟩) hT.un hi0 hzz.1 hb hl (fun j u hu => by
  have hj : j < cs.length := (List.getElem?_eq_some_iff.1 hu).1
  have := hs.get j hj
  rw [e]
  simp only [elt] at this
  rw [this, List.getD_eq_getElem?_getD, hu]; rfl) hle (fun v hv => List.all_eq_true.1 ho v hv)
 have : (execOp (ev ρ) ⟨dst, .call ⟨.builtin .copy, #[x1, x2], #[T1, T1]⟩, T, pos, af, none⟩).run P w = .ok (.value (.int .i64 n)) (w.setRow g (cs ++ cur.drop cs.length).toArray) := by
  simp [execOp, resolve, invoke, builtin, h1, h2, hr]
 rw [this]
 have hc := dk (cs' := cs ++ cur.drop cs.length) hb
 exact h _ hc.1 hc.2
end
end Go.W
namespace Go.Proofs.Ytppipmkpmmdcjaa
open Go.W Go.LM
def NoI (cs : List Value) : Prop := ∀ v ∈ cs, ∀ m, v ≠ .int .u32 m
theorem bx (n : Nat) (h : Nat → IH) : NoI (rowC n h) := fun v hv m e => by
 rcases j6 hv with ⟨b, rfl⟩ | ⟨a, l, c, rfl⟩ <;> cases e
theorem bQ (n : Nat) (s : Nat → SD) : NoI (topC n s) := fun v hv m e => by
 obtain ⟨a, l, c, rfl⟩ := j9 hv; cases e
theorem au (neg : Bool) (a : Option Addr) (n c : Nat) : NoI (intL neg a n c) := fun v hv m e => by
 simp only [List.mem_cons, List.not_mem_nil, or_false] at hv
 rcases hv with rfl | rfl <;> cases e
theorem Limbs.gbN {w w' : World} {a : Option Addr} {c g T : Nat} {ls : List Nat} {cs : List Value} (h : Limbs w a c ls) (hb : Blk w g T cs) (hn : NoI cs) (hg : w.grownBy w' (some g)) : Limbs w' a c ls := by
 refine ⟨?_, h.cap, h.lim, h.len⟩
 cases ls with
 | nil => exact Sl.nil _ _
 | cons d l =>
  refine h.sl.gb hg fun ad e he => ?_
  have := h.sl.off hb (j := 0) (by simp [limbsL]) (fun hm => hn _ hm d rfl) ad e
  cases he; exact this rfl
structure Ent (cn : Bool) (K : Nat) (w : World) (v : Value) (z : Int) : Prop where
 k : IntK K w v z
 c : cn = true → IntC 0 w v z
section
variable {cn : Bool} {K : Nat} {w w' : World} {v : Value} {z : Int}
theorem Ent.of {lo : Nat} (h : IntC lo w v z) (hz : z.natAbs < 4294967296 ^ K) : Ent cn K w v z := ⟨h.k hz, fun _ => h.mono (Nat.zero_le _)⟩
theorem Ent.weak (h : Ent true K w v z) : Ent cn K w v z := ⟨h.k, fun _ => h.c rfl⟩
theorem Ent.weak' (h : Ent cn K w v z) : Ent false K w v z := ⟨h.k, fun e => nomatch e⟩
theorem Ent.ext (h : Ent cn K w v z) (e : Ex w w') : Ent cn K w' v z := ⟨h.k.ext e, fun c => (h.c c).ext e⟩
theorem Ent.ih (h : Ent cn K w v z) : ∃ x : IH, v = x.val := by
 obtain ⟨neg, a, c, ls, rfl, _⟩ := h.k
 exact ⟨⟨neg, ⟨a, ls.length, c⟩⟩, rfl⟩
theorem IntC.ih {lo : Nat} (h : IntC lo w v z) : ∃ x : IH, v = x.val := by
 obtain ⟨neg, a, c, ls, rfl, _⟩ := h
 exact ⟨⟨neg, ⟨a, ls.length, c⟩⟩, rfl⟩
theorem IntK.gbN {g T : Nat} {cs : List Value} (h : IntK K w v z) (hb : Blk w g T cs) (hn : NoI cs) (hg : w.grownBy w' (some g)) : IntK K w' v z := by
 obtain ⟨neg, a, c, ls, h1, h2, h3⟩ := h; exact ⟨neg, a, c, ls, h1, h2.gbN hb hn hg, h3⟩
theorem IntC.gbN {g T lo : Nat} {cs : List Value} (h : IntC lo w v z) (hb : Blk w g T cs) (hn : NoI cs) (hg : w.grownBy w' (some g)) : IntC lo w' v z := by
 obtain ⟨neg, a, c, ls, h1, h2, h3⟩ := h; exact ⟨neg, a, c, ls, h1, h2.gbN hb hn hg, h3⟩
theorem Ent.gbN {g T : Nat} {cs : List Value} (h : Ent cn K w v z) (hb : Blk w g T cs) (hn : NoI cs) (hg : w.grownBy w' (some g)) : Ent cn K w' v z :=
 ⟨h.k.gbN hb hn hg, fun c => (h.c c).gbN hb hn hg⟩
end
theorem jQ {cn : Bool} {K : Nat} (w : World) : Ent cn K w ih0.val 0 := by
 have h : Limbs w none 0 [] := ⟨Sl.nil _ _, Nat.le_refl _, fun d hd => by simp at hd, by simp⟩
 exact ⟨⟨false, none, 0, [], rfl, h, rfl, Nat.zero_le _⟩, fun _ => ⟨false, none, 0, [], rfl, h, rfl, rfl, fun e => (nomatch e), fun ad e => (nomatch e)⟩⟩
structure RX (cn : Bool) (K : Nat) (w : World) (s : SD) (n : Nat) (f : Nat → Int) : Prop where
 len : s.len = n
 cap : n ≤ s.cap
 ex : ∃ h : Nat → IH, Sl w s.a (rowC n h) ∧ ∀ i, i < n → Ent cn K w (h i).val (f i)
section
variable {cn : Bool} {K n : Nat} {w w' : World} {s : SD} {f f' : Nat → Int}
theorem RX.ext (h : RX cn K w s n f) (e : Ex w w') : RX cn K w' s n f := by
 obtain ⟨hh, h1, h2⟩ := h.ex; exact ⟨h.len, h.cap, hh, h1.ext e, fun i hi => (h2 i hi).ext e⟩
theorem RX.weak' (h : RX cn K w s n f) : RX false K w s n f := by
 obtain ⟨hh, h1, h2⟩ := h.ex; exact ⟨h.len, h.cap, hh, h1, fun i hi => (h2 i hi).weak'⟩
theorem RX.congr (h : RX cn K w s n f) (e : ∀ i, i < n → f' i = f i) : RX cn K w s n f' := by
 obtain ⟨hh, h1, h2⟩ := h.ex; exact ⟨h.len, h.cap, hh, h1, fun i hi => by rw [e i hi]; exact h2 i hi⟩
theorem RX.gbN {g T : Nat} {cs : List Value} (h : RX cn K w s n f) (hb : Blk w g T cs) (hn : NoI cs) (hg : w.grownBy w' (some g)) (hne : ∀ ad, s.a = some ad → ad.block ≠ g) : RX cn K w' s n f := by
 obtain ⟨hh, h1, h2⟩ := h.ex
 exact ⟨h.len, h.cap, hh, h1.gb hg (fun ad e he => hne ad e (by cases he; rfl)), fun i hi => (h2 i hi).gbN hb hn hg⟩
theorem RX.gbT {g T m : Nat} {t : Nat → SD} (h : RX cn K w s n f) (hb : Blk w g T (topC m t)) (hg : w.grownBy w' (some g)) : RX cn K w' s n f := by
 obtain ⟨hh, h1, h2⟩ := h.ex
 refine ⟨h.len, h.cap, hh, ?_, fun i hi => (h2 i hi).gbN hb (bQ _ _) hg⟩
 by_cases hn : n = 0
 ·subst hn; exact Sl.nil _ _
 ·refine h1.gb hg fun ad e he => ?_
  have h0 : (rowC n hh).getD 0 undef = .bool (hh 0).neg := by
   have := (jx (h := hh) (show 0 < n by omega)).1
   rw [List.getD_eq_getElem?_getD, show (0 : Nat) = 0 * 2 from rfl, this]; rfl
  have := h1.off hb (j := 0) (by rw [bT]; omega) (fun hm => by
   rw [h0] at hm; obtain ⟨a, l, c, e⟩ := j9 hm; cases e) ad e
  cases he; exact this rfl
theorem RX.lt (h : RX cn K w s n f) (hn : 0 < n) : ∀ ad, s.a = some ad → ad.block < w.heap.size := by
 obtain ⟨hh, h1, h2⟩ := h.ex; exact h1.lt (by rw [bT]; omega)
theorem RX.plain (h : RX cn K w s n f) (hn : 0 < n) : W.plain s.a := by
 obtain ⟨hh, h1, h2⟩ := h.ex; exact h1.plain (by rw [bT]; omega)
end
structure MX (cn : Bool) (K : Nat) (w : World) (a : Option Addr) (r c : Nat) (s : Nat → SD) (F : Nat → Nat → Int) : Prop where
 top : Sl w a (topC r s)
 row : ∀ i, i < r → RX cn K w (s i) c (F i)
structure RO (cn : Bool) (K : Nat) (w : World) (lo g cap n : Nat) (f : Nat → Int) : Prop where
 low : lo ≤ g
 le : n ≤ cap
 ex : ∃ h : Nat → IH, Blk w g 27 (rowC cap h) ∧ ∀ i, i < n → Ent cn K w (h i).val (f i)
section
variable {cn : Bool} {K n lo g cap : Nat} {w w' : World} {f f' : Nat → Int}
theorem RO.rx (h : RO cn K w lo g cap n f) : RX cn K w ⟨some ⟨g, 0, none⟩, n, cap⟩ n f := by
 obtain ⟨hh, h1, h2⟩ := h.ex; exact ⟨rfl, h.le, hh, h1.sl.row h.le, h2⟩
theorem RO.ext (h : RO cn K w lo g cap n f) (e : Ex w w') : RO cn K w' lo g cap n f := by
 obtain ⟨hh, h1, h2⟩ := h.ex; exact ⟨h.low, h.le, hh, h1.ext e, fun i hi => (h2 i hi).ext e⟩
theorem RO.weak (h : RO true K w lo g cap n f) : RO cn K w lo g cap n f := by
 obtain ⟨hh, h1, h2⟩ := h.ex; exact ⟨h.low, h.le, hh, h1, fun i hi => (h2 i hi).weak⟩
theorem RO.mono {lo' : Nat} (h : RO cn K w lo g cap n f) (hl : lo' ≤ lo) : RO cn K w lo' g cap n f := ⟨Nat.le_trans hl h.low, h.le, h.ex⟩
theorem RO.congr (h : RO cn K w lo g cap n f) (e : ∀ i, i < n → f' i = f i) : RO cn K w lo g cap n f' := by
 obtain ⟨hh, h1, h2⟩ := h.ex; exact ⟨h.low, h.le, hh, h1, fun i hi => by rw [e i hi]; exact h2 i hi⟩
theorem RO.gbN {g' T : Nat} {cs : List Value} (h : RO cn K w lo g cap n f) (hb : Blk w g' T cs) (hn : NoI cs) (hg : w.grownBy w' (some g')) (hne : g ≠ g') : RO cn K w' lo g cap n f := by
 obtain ⟨hh, h1, h2⟩ := h.ex
 exact ⟨h.low, h.le, hh, h1.gb hg (fun e => hne (by cases e; rfl)), fun i hi => (h2 i hi).gbN hb hn hg⟩
theorem RO.lt (h : RO cn K w lo g cap n f) : g < w.heap.size := by obtain ⟨hh, h1, h2⟩ := h.ex; exact h1.lt
theorem RO.put {j : Nat} {hh : Nat → IH} {u : IH} {z : Int} (hlo : lo ≤ g) (hcap : n ≤ cap) (hb : Blk w g 27 (rowC cap hh)) (h2 : ∀ i, i < n → Ent cn K w (hh i).val (f i)) (hu : Ent cn K w u.val z)
  (hg : Chg g w w') (hb' : Blk w' g 27 (rowC cap (setF hh j u))) : RO cn K w' lo g cap n (setF f j z) := by
 refine ⟨hlo, hcap, _, hb', fun i hi => ?_⟩
 by_cases h : i = j
 ·subst h; rw [aK, aK]; exact hu.gbN hb (bx _ _) (bc hg)
 ·rw [aN _ _ h, aN _ _ h]; exact (h2 i hi).gbN hb (bx _ _) (bc hg)
end
structure MO (cn : Bool) (K : Nat) (w : World) (lo g r c : Nat) (gs cap : Nat → Nat) (F : Nat → Nat → Int) : Prop where
 low : lo ≤ g
 top : Blk w g 29 (topC r fun i => ⟨some ⟨gs i, 0, none⟩, c, cap i⟩)
 row : ∀ i, i < r → RO cn K w lo (gs i) (cap i) c (F i)
 off : ∀ i, i < r → gs i ≠ g
 inj : ∀ i j, i < r → j < r → gs i = gs j → i = j
section
variable {cn : Bool} {K r c lo g : Nat} {w w' : World} {gs cap : Nat → Nat} {F F' : Nat → Nat → Int}
theorem MO.mx (h : MO cn K w lo g r c gs cap F) : MX cn K w (some ⟨g, 0, none⟩) r c (fun i => ⟨some ⟨gs i, 0, none⟩, c, cap i⟩) F := ⟨h.top.sl, fun i hi => (h.row i hi).rx⟩
theorem MO.ext (h : MO cn K w lo g r c gs cap F) (e : Ex w w') : MO cn K w' lo g r c gs cap F := ⟨h.low, h.top.ext e, fun i hi => (h.row i hi).ext e, h.off, h.inj⟩
theorem MO.mono {lo' : Nat} (h : MO cn K w lo g r c gs cap F) (hl : lo' ≤ lo) : MO cn K w lo' g r c gs cap F := ⟨Nat.le_trans hl h.low, h.top, fun i hi => (h.row i hi).mono hl, h.off, h.inj⟩
theorem MO.congr (h : MO cn K w lo g r c gs cap F) (e : ∀ i j, i < r → j < c → F' i j = F i j) : MO cn K w lo g r c gs cap F' := ⟨h.low, h.top, fun i hi => (h.row i hi).congr fun j hj => e i j hi hj, h.off, h.inj⟩
theorem MO.gbN {g' T : Nat} {cs : List Value} (h : MO cn K w lo g r c gs cap F) (hb : Blk w g' T cs) (hn : NoI cs) (hg : w.grownBy w' (some g')) (hne : g ≠ g') (hns : ∀ i, i < r → gs i ≠ g') : MO cn K w' lo g r c gs cap F :=
 ⟨h.low, h.top.gb hg (fun e => hne (by cases e; rfl)), fun i hi => (h.row i hi).gbN hb hn hg (hns i hi), h.off, h.inj⟩
theorem MO.lt (h : MO cn K w lo g r c gs cap F) : g < w.heap.size := h.top.lt
end
section
variable {cn : Bool} {K r c : Nat} {w w' : World} {a : Option Addr} {s : Nat → SD} {F F' : Nat → Nat → Int}
theorem MX.ext (h : MX cn K w a r c s F) (e : Ex w w') : MX cn K w' a r c s F := ⟨h.top.ext e, fun i hi => (h.row i hi).ext e⟩
theorem MX.plain (h : MX cn K w a r c s F) (hr : 0 < r) : W.plain a := h.top.plain (by rw [bJ]; exact hr)
end
def RetMO (K : Nat) (w : World) (r c : Nat) (F : Nat → Nat → Int) (v : Value) (w' : World) : Prop :=
 ∃ g gs cap, v = .slice (some ⟨g, 0, none⟩) r r ∧ MO true K w' w.heap.size g r c gs cap F ∧ Ex w w'
end Go.Proofs.Ytppipmkpmmdcjaa
namespace Go.Proofs.Ytppipmkpmmdcjaa
open Go.W Go.LM
theorem oY {n1 n2 : Bool} {N D : Nat} (hD : 0 < D) :
  (n1 = false → sgn n1 N / sgn n2 D = sgn n2 (N / D) ∧ sgn n1 N % sgn n2 D = ((N % D : Nat) : Int)) ∧
  (n1 = true → N % D = 0 → sgn n1 N / sgn n2 D = sgn (!n2) (N / D) ∧ sgn n1 N % sgn n2 D = ((N % D : Nat) : Int)) ∧
  (n1 = true → 0 < N % D → sgn n1 N / sgn n2 D = sgn (!n2) (N / D + 1) ∧ sgn n1 N % sgn n2 D = ((D - N % D : Nat) : Int)) := by
 obtain ⟨⟨a1, a2⟩, ⟨b1, b2⟩, hc, hd⟩ := mD (N := N) hD
 have hlt := Nat.mod_lt N hD
 refine ⟨fun h => ?_, fun h h0 => ?_, fun h h0 => ?_⟩
 ·subst h; cases n2 <;> simp only [sgn, if_true, Bool.false_eq_true, if_false]
  ·exact ⟨a1, a2⟩
  ·exact ⟨b1, b2⟩
 ·obtain ⟨c1, c2, c3, c4⟩ := hc h0
  subst h; cases n2 <;> simp only [sgn, if_true, Bool.false_eq_true, if_false, Bool.not_true, Bool.not_false]
  ·exact ⟨c1, by rw [c2, h0]; rfl⟩
  ·exact ⟨c3, by rw [c4, h0]; rfl⟩
 ·obtain ⟨c1, c2, c3, c4⟩ := hd (by omega)
  subst h; cases n2 <;> simp only [sgn, if_true, Bool.false_eq_true, if_false, Bool.not_true, Bool.not_false]
  ·exact ⟨by rw [c1]; omega, by rw [c2]; omega⟩
  ·exact ⟨by rw [c3]; omega, by rw [c4]; omega⟩
set_option maxHeartbeats 2000000 in
theorem bf {p q : Nat} {v1 v2 : Value} {x y : Int} {w : World} (h1 : IntK p w v1 x) (h2 : IntK q w v2 y) (hp : p < 17592186044415) (_hq : q < 17592186044415) :
  CallsR Try.prog 51 #[v1, v2] w fun v w' => ∃ q r, v = .tuple #[q, r, .bool (decide (y ≠ 0))] ∧ IntC w.heap.size w' q (x / y) ∧ IntC w.heap.size w' r (if y = 0 then 0 else x % y) ∧ Ex w w' := by
 obtain ⟨n1, a1, c1, l1, rfl, hL1, rfl, hp1⟩ := h1
 obtain ⟨n2, a2, c2, l2, rfl, hL2, rfl, hq1⟩ := h2
 have tl1 := cA l1
 have tl2 := cA l2
 refine aJ (args := [_, _]) Try.func51 rfl rfl ?_
 refine ao ?_
 refine ah rfl ?_
 refine bM rfl (fun g2 w2 hn2 => ⟨fun _ _ => trivial, ?_⟩)
 refine bM rfl (fun g3 w3 hn3 => ⟨fun _ _ => trivial, ?_⟩)
 refine aD (fun g4 w4 hn4 => ⟨fun _ _ => trivial, ?_⟩)
 refine aD (fun g5 w5 hn5 => ⟨fun _ _ => trivial, ?_⟩)
 have hb2 := ((hn2.blk.ext hn3.ex).ext hn4.ex).ext hn5.ex
 have hb3 := (hn3.blk.ext hn4.ex).ext hn5.ex
 have hb4 : Blk w5 g4 27 (intL false none 0 0) := hn4.blk.ext hn5.ex
 have hb5 : Blk w5 g5 27 (intL false none 0 0) := hn5.blk
 have hE := ((hn2.ex.trans hn3.ex).trans hn4.ex).trans hn5.ex
 have s3 := (hn2.ex.trans hn3.ex).size
 have s4 := hn4.ex.size
 have s5 := hn5.ex.size
 have lo4 := hn4.lo
 have hi4 := hn4.hi
 have lo5 := hn5.lo
 have hi5 := hn5.hi
 have ne45 : g4 ≠ g5 := by omega
 repeat' (first|refine aV rfl hb3 rfl ?_|refine ai rfl ?_|refine aa ?_|refine ao ?_|refine ah rfl ?_|refine ae ?_|refine aL rfl ?_)
 refine ax (bL (hL2.ext hE)) rfl ?_
 rintro v w6 ⟨rfl, hE6⟩
 refine ⟨fun _ _ => trivial, ?_⟩
 have hE56 := hE6
 have hE6 := hE.trans hE6
 have hy0 : sgn n2 (natOf l2) = 0 ↔ natOf l2 = 0 := by unfold sgn; cases n2 <;> simp
 repeat' (first|refine aV rfl (hb2.ext hE56) rfl ?_|refine cD (cs := intL false none 0 0) rfl ?_|refine ai rfl ?_|refine aa ?_|refine ao ?_|refine ah rfl ?_|refine ae ?_|refine bn rfl ?_|refine aL rfl ?_|refine aR rfl (fun hc => ?_) (fun hc => ?_)|refine aI ?_)
 ·
  have hz : natOf l2 = 0 := cw.1 (List.eq_nil_of_length_eq_zero (by omega))
  refine aw (n := 2) rfl rfl rfl rfl (hb4.ext hE56) rfl (fun w7 hc7 hb7 => ⟨fun _ _ => trivial, ?_⟩)
  refine aw (n := 2) rfl rfl rfl rfl ((hb5.ext hE56).chg hc7 (Ne.symm ne45)) rfl (fun w8 hc8 hb8 => ⟨fun _ _ => trivial, ?_⟩)
  repeat' (first|refine ai rfl ?_|refine aa ?_|refine ae ?_|refine aT ?_|refine bw ?_)
  have hlim : ∀ w, Limbs w none 0 [] := fun w => Limbs.nil _ _ _
  have hI : ∀ w, IntC w5.heap.size w (.agg (intL false none 0 0).toArray) 0 := fun w => ⟨false, none, 0, [], rfl, hlim w, rfl, rfl, fun e => (nomatch e), fun ad e => (nomatch e)⟩
  rw [hy0.2 hz, Int.ediv_zero]
  refine gj rfl (rc rfl rfl (hb7.chg hc8 ne45)) (rc rfl rfl hb8) (rt rfl) ⟨_, _, rfl, (hI _).mono (by omega), ?_, (hE6.chg hc7 (by omega)).chg hc8 (by omega)⟩
  rw [if_pos rfl]; exact (hI _).mono (by omega)
 ·have hpos : 0 < natOf l2 := by
   rcases Nat.eq_zero_or_pos (natOf l2) with h | h
   ·exfalso; have h0 : (trimL l2).length = 0 := by rw [cw.2 h]; rfl
    omega
   ·exact h
  have hyne : sgn n2 (natOf l2) ≠ 0 := fun e => by have := hy0.1 e; omega
  refine ax (bL (hL1.ext hE6)) rfl ?_
  rintro v w7 ⟨rfl, hE7⟩
  refine ⟨fun _ _ => trivial, ?_⟩
  have hE57 := hE56.trans hE7
  repeat' (first|refine ai rfl ?_)
  refine ax (lv ((hL1.ext (hE6.trans hE7)).trim) ((hL2.ext (hE6.trans hE7)).trim) (bE _) (bE _) (by rw [bu]; exact hpos) (by omega)) rfl ?_
  rintro v w8 ⟨a8, c8, l8, a9, c9, l9, rfl, hL8, hL9, hC8, hC9, hq8, hq9, hlo8, hlo9, hE8⟩
  refine ⟨fun _ _ => trivial, ?_⟩
  rw [bu, bu] at hq8 hq9
  have hE58 := hE57.trans hE8
  have s7 := hE57.size
  have s8 := hE8.size
  have hl8 := hL8.len
  have hl9 := hL9.len
  repeat' (first|refine aV rfl (hb3.ext hE58) rfl ?_|refine ai rfl ?_|refine aa ?_|refine ao ?_|refine ah rfl ?_|refine ae ?_|refine aL rfl ?_)
  have hb48 := hb4.ext hE58
  have hb58 := hb5.ext hE58
  refine cz (ι := Bool × (Option Addr × List Nat × Nat) × (Option Addr × List Nat × Nat)) [8, 9, 10, 29, 30, 31, 32, 33, 34, 35, 36, 37, 38, 39, 40, 41, 42, 43, 44, 45, 46, 47] (fun t => [(10, .bool t.1), (8, .slice t.2.1.1 t.2.1.2.1.length t.2.1.2.2), (9, .slice t.2.2.1 t.2.2.2.1.length t.2.2.2.2)])
   (fun t w' => Ex w8 w' ∧ Limbs w' t.2.1.1 t.2.1.2.2 t.2.1.2.1 ∧ Limbs w' t.2.2.1 t.2.2.2.2 t.2.2.2.1 ∧ Canon t.2.1.2.1 ∧ Canon t.2.2.2.1 ∧ (∀ ad, t.2.1.1 = some ad → w.heap.size ≤ ad.block) ∧ (∀ ad, t.2.2.1 = some ad → w.heap.size ≤ ad.block) ∧
    sgn n1 (natOf l1) / sgn n2 (natOf l2) = sgn t.1 (natOf t.2.1.2.1) ∧ sgn n1 (natOf l1) % sgn n2 (natOf l2) = ((natOf t.2.2.2.1 : Nat) : Int)) ?_ ?_
  ·obtain ⟨ed1, ed2, ed3⟩ := oY (n1 := n1) (n2 := n2) (N := natOf l1) hpos
   have hln : (l9.length = 0 ↔ natOf l1 % natOf l2 = 0) := by
    rw [← hq9]
    constructor
    ·intro h; rw [List.eq_nil_of_length_eq_zero h]; rfl
    ·intro h; have := cw.2 h; rw [hC9] at this; rw [this]; rfl
   have hmodlt := Nat.mod_lt (natOf l1) hpos
   have hlo8' : ∀ ad, a8 = some ad → w.heap.size ≤ ad.block := fun ad e => by have := hlo8 ad e; have := hE.size; omega
   have hlo9' : ∀ ad, a9 = some ad → w.heap.size ≤ ad.block := fun ad e => by have := hlo9 ad e; have := hE.size; omega
   rcases Bool.eq_false_or_eq_true n1 with rfl | rfl
   ·repeat' (first|refine aV rfl (hb2.ext hE58) rfl ?_|refine m9 (k := .u32) (u := 1) rfl (fun g9 w9 hn9 => ⟨fun _ _ => trivial, ?_⟩)|refine ai rfl ?_|refine aa ?_|refine ao ?_|refine ah rfl ?_|refine ae ?_|refine bn rfl ?_|refine bB rfl rfl ?_|refine aL rfl ?_|refine aE rfl ?_|refine aR rfl (fun hc => ?_) (fun hc => ?_)|refine aC ?_|refine aW ?_|refine aO ?_|refine aX ?_|refine e8 rfl ?_|refine aI ?_)
    ·have hm0 : 0 < natOf l1 % natOf l2 := by
      rcases Nat.eq_zero_or_pos (natOf l1 % natOf l2) with h | h
      ·have := hln.2 h; omega
      ·exact h
     obtain ⟨e1, e2⟩ := ed3 rfl hm0
     have h1L : Limbs w9 (some ⟨g9, 0, none⟩) 1 [1] := ⟨hn9.blk.sl, Nat.le_refl _, fun d hd => by simp at hd; omega, by simp⟩
     have hq8len : l8.length < 17592186044416 := by
      have := jw (hL1.lim.trim) hC8 (by rw [hq8, bu]; exact Nat.div_le_self _ _)
      omega
     refine ax (iK (hL8.ext hn9.ex) h1L (by omega) (by simp)) rfl ?_
     rintro v w10 ⟨lq, hNq, hCq, aq, cq, rfl, hLq, hfq, hE10⟩
     refine ⟨fun _ _ => trivial, ?_⟩
     have hE810 := hn9.ex.trans hE10
     have h0E := hE6.trans hE7
     have h010 := ((hE6.trans hE7).trans hE8).trans hE810
     repeat' (first|refine ai rfl ?_|refine aa ?_|refine ah rfl ?_|refine ae ?_)
     refine ax (fI ((hL2.ext h010).trim) (hL9.ext hE810) (by rw [bu, hq9]; omega) hC9) rfl ?_
     rintro v w11 ⟨lr, hNr, hCr, ar, cr, rfl, hLr, hfr, hE11⟩
     refine ⟨fun _ _ => trivial, ?_⟩
     repeat' (first|refine ai rfl ?_|refine aa ?_|refine ao ?_|refine ah rfl ?_|refine ae ?_|refine aW ?_|refine aX ?_|refine aM ?_)
     have s9 := hE.size
     have s10 := hE810.size
     have s99 := hn9.ex.size
     refine ⟨⟨(!n2, (aq, lq, cq), (ar, lr, cr)), ⟨hE810.trans hE11, hLq.ext hE11, hLr, hCq, hCr, fun ad e => by have := hfq ad e; omega, fun ad e => by have := hfr ad e; omega, ?_, ?_⟩, rfl, rfl, rfl, trivial⟩, (by (repeat (first|exact aG _ _|refine ay rfl ?_|refine av rfl ?_|refine aj rfl ?_|refine ak rfl ?_)))⟩
     ·simp only; rw [e1, hNq, hq8]; rfl
     ·simp only; rw [e2, hNr, bu, hq9]
    ·have hm0 : natOf l1 % natOf l2 = 0 := hln.1 (by omega)
     obtain ⟨e1, e2⟩ := ed2 rfl hm0
     refine ⟨⟨(!n2, (a8, l8, c8), (a9, l9, c9)), ⟨Ex.refl _, hL8, hL9, hC8, hC9, hlo8', hlo9', ?_, ?_⟩, rfl, rfl, rfl, trivial⟩, (by (repeat (first|exact aG _ _|refine ay rfl ?_|refine av rfl ?_|refine aj rfl ?_|refine ak rfl ?_)))⟩
     ·simp only; rw [e1, hq8]
     ·simp only; rw [e2, hq9]
   ·repeat' (first|refine aV rfl (hb2.ext hE58) rfl ?_|refine ai rfl ?_|refine aa ?_|refine ao ?_|refine ah rfl ?_|refine ae ?_|refine bS rfl rfl ?_|refine aL rfl ?_|refine aA rfl ?_|refine aC ?_|refine aW ?_|refine aO ?_|refine aX ?_|refine e8 rfl ?_|refine aI ?_)
    obtain ⟨e1, e2⟩ := ed1 rfl
    refine ⟨⟨(n2, (a8, l8, c8), (a9, l9, c9)), ⟨Ex.refl _, hL8, hL9, hC8, hC9, hlo8', hlo9', ?_, ?_⟩, rfl, rfl, rfl, trivial⟩, (by (repeat (first|exact aG _ _|refine ay rfl ?_|refine av rfl ?_|refine aj rfl ?_|refine ak rfl ?_)))⟩
    ·simp only; rw [e1, hq8]
    ·simp only; rw [e2, hq9]
  ·rintro ⟨nb, ⟨aq, lq, cq⟩, ⟨ar, lr, cr⟩⟩ ξ w9 ⟨hE9, hLq, hLr, hCq, hCr, hfq, hfr, eq1, eq2⟩
   simp only at hLq hLr hCq hCr hfq hfr eq1 eq2
   show CW _ _ _ _ (over [(10, .bool nb), (8, .slice aq lq.length cq), (9, .slice ar lr.length cr)] _) w9
   clear hlo8 hlo9
   repeat' (first|refine ai rfl ?_|refine ao ?_|refine ah rfl ?_)
   refine ax (cc hLq hCq hfq _) rfl ?_
   rintro v w10 ⟨hI10, hE10⟩
   refine ⟨fun _ _ => trivial, ?_⟩
   repeat' (first|refine ai rfl ?_)
   refine ax (cc (hLr.ext hE10) hCr hfr _) rfl ?_
   rintro v w11 ⟨hI11, hE11⟩
   refine ⟨fun _ _ => trivial, ?_⟩
   obtain ⟨qs, rfl, hql, hqo⟩ := hI10.out
   obtain ⟨rs, rfl, hrl, hro⟩ := hI11.out
   have hE911 := (hE9.trans hE10).trans hE11
   have s911 := hE911.size
   refine aw (n := 2) rfl rfl hql hqo (hb48.ext hE911) rfl (fun w12 hc12 hb12 => ⟨fun _ _ => trivial, ?_⟩)
   refine aw (n := 2) rfl rfl hrl hro ((hb58.ext hE911).chg hc12 (Ne.symm ne45)) rfl (fun w13 hc13 hb13 => ⟨fun _ _ => trivial, ?_⟩)
   repeat' (first|refine ai rfl ?_|refine aa ?_|refine ae ?_|refine aT ?_)
   have b12 := hb48.ext hE911
   have b13 := (hb58.ext hE911).chg hc12 (Ne.symm ne45)
   have hEa := ((hE6.trans hE7).trans hE8).trans hE911
   refine gj rfl (rc rfl hql (hb12.chg hc13 ne45)) (rc rfl hrl hb13) (rt (v := .bool true) rfl) ⟨_, _, by rw [decide_eq_true hyne], ?_, ?_, (hEa.chg hc12 (by omega)).chg hc13 (by omega)⟩
   ·rw [eq1]; exact ((hI10.ext hE11).gbN b12 (au _ _ _ _) (bc hc12)).gbN b13 (au _ _ _ _) (bc hc13)
   ·rw [if_neg hyne, eq2]; exact (hI11.gbN b12 (au _ _ _ _) (bc hc12)).gbN b13 (au _ _ _ _) (bc hc13)
end Go.Proofs.Ytppipmkpmmdcjaa
