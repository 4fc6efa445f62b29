import Derived.Test.YtpfhfldehaiokaaGreatA09
import Derived.Test.YtpfhfldehaiokaaGreatA11
import Derived.Test.YtpfhfldehaiokaaGreatA14
import Derived.Test.YtpfhfldehaiokaaGreatA15
set_option maxHeartbeats 2000000
namespace Go.Proofs.YtpfhfldehaiokaaGreat
open Go.W Go.LM
structure DvJ (N V n m k : Nat) (R Q : List Nat) : Prop where
 rl : R.length = m + 1 + n
 ql : Q.length = m + 1
 lr : Lim R
 lq : Lim Q
 eq : natOf R + V * natOf Q = N
 hi : natOf (R.drop k) < V
 zero : ∀ i, i < k → Q.getD i 0 = 0
 le : k ≤ m + 1
theorem Lim.drop {l : List Nat} (h : Lim l) (k : Nat) : Lim (l.drop k) := fun d hd => h d (List.mem_of_mem_drop hd)
theorem Lim.append {l m : List Nat} (h : Lim l) (h' : Lim m) : Lim (l ++ m) := fun d hd => by
 rcases List.mem_append.1 hd with e | e
 ·exact h d e
 ·exact h' d e
theorem DvJ.pre {N V n m k : Nat} {R Q : List Nat} (h : DvJ N V n m (k + 1) R Q) (hV : V < 4294967296 ^ n) :
  natOf ((R.drop k).take (n + 1)) < V * 4294967296 ∧ natOf (R.drop (k + (n + 1))) = 0 ∧ ((R.drop k).take (n + 1)).length = n + 1 ∧ (R.take k).length = k ∧ R = R.take k ++ (R.drop k).take (n + 1) ++ R.drop (k + (n + 1)) := by
 have h1 := h.rl
 have h2 := h.le
 have e := dg (ls := R) (k := k) (by omega)
 have h3 := h.hi
 have h4 := h.lr.getD k
 have h5 : natOf (R.drop k) < V * 4294967296 := by
  rw [e]
  have : (natOf (R.drop (k + 1)) + 1) * 4294967296 ≤ V * 4294967296 := Nat.mul_le_mul_right _ h3
  omega
 have hd : (R.drop k).length = m + 1 + n - k := by rw [List.length_drop, h1]
 have es := dD (R.drop k) (k := n + 1) (by omega)
 rw [List.drop_drop] at es
 have hz : natOf (R.drop (k + (n + 1))) = 0 := by
  rcases Nat.eq_zero_or_pos (natOf (R.drop (k + (n + 1)))) with h0 | h0
  ·exact h0
  ·exfalso
   have : 4294967296 ^ (n + 1) * 1 ≤ 4294967296 ^ (n + 1) * natOf (R.drop (k + (n + 1))) := Nat.mul_le_mul_left _ h0
   have h6 : V * 4294967296 < 4294967296 ^ n * 4294967296 := Nat.mul_lt_mul_of_pos_right hV (by decide)
   rw [Nat.pow_succ] at this es
   omega
 refine ⟨by rw [es] at h5; omega, hz, by rw [List.length_take, hd]; omega, by rw [List.length_take, h1]; omega, ?_⟩
 rw [List.append_assoc, ← List.drop_drop, List.take_append_drop, List.take_append_drop]
theorem DvJ.step {N V n m k : Nat} {R Q S' : List Nat} (h : DvJ N V n m (k + 1) R Q) (hV : V < 4294967296 ^ n) (h0 : 0 < V) (hl : S'.length = n + 1) (hL : Lim S') (hS : natOf S' = natOf ((R.drop k).take (n + 1)) % V) :
  DvJ N V n m k (R.take k ++ S' ++ R.drop (k + (n + 1))) (Q.set k (natOf ((R.drop k).take (n + 1)) / V)) := by
 obtain ⟨p1, p2, p3, p4, p5⟩ := h.pre hV
 have h1 := h.rl
 have h2 := h.le
 have hq := h.ql
 have heq := h.eq
 have hR : natOf R = natOf (R.take k) + 4294967296 ^ k * natOf ((R.drop k).take (n + 1)) := by
  conv => lhs; rw [p5]
  rw [db, db, p2, p4, Nat.mul_zero, Nat.add_zero]
 have hqd : natOf ((R.drop k).take (n + 1)) / V < 4294967296 := (Nat.div_lt_iff_lt_mul h0).2 (by rw [Nat.mul_comm]; exact p1)
 have hdm := Nat.div_add_mod (natOf ((R.drop k).take (n + 1))) V
 generalize (R.drop k).take (n + 1) = S at *
 have hQ := cS (l := Q) (k := k) (v := natOf S / V) (by omega)
 rw [h.zero k (by omega), Nat.zero_mul, Nat.add_zero] at hQ
 refine ⟨by simp only [List.length_append, p4, hl, List.length_drop]; omega, by simp [hq], Lim.append (Lim.append (h.lr.take k) hL) (Lim.drop h.lr _), h.lq.set hqd, ?_, ?_, fun i hi => ?_, by omega⟩
 ·rw [db, db, p2, p4, Nat.mul_zero, Nat.add_zero, hQ, hS, Nat.mul_add]
  rw [hR] at heq
  generalize natOf S / V = q at *
  generalize natOf S % V = r at *
  generalize 4294967296 ^ k = E at *
  have : V * (q * E) + E * r = E * natOf S := by rw [← hdm]; grind
  omega
 ·rw [List.append_assoc, List.drop_append_of_le_length (by omega), List.drop_of_length_le (by omega), List.nil_append, db, p2, Nat.mul_zero, Nat.add_zero, hS]
  exact Nat.mod_lt _ h0
 ·rw [cG (by omega)]; exact h.zero i (by omega)
theorem DvJ.fin {N V n m : Nat} {R Q : List Nat} (h : DvJ N V n m 0 R Q) : natOf Q = N / V ∧ natOf R = N % V := by
 have h1 := h.hi
 have h2 := h.eq
 simp only [List.drop_zero] at h1
 refine ⟨?_, ?_⟩
 ·rw [← h2, Nat.add_mul_div_left _ _ (by omega), Nat.div_eq_of_lt h1, Nat.zero_add]
 ·rw [← h2, Nat.add_mul_mod_self_left, Nat.mod_eq_of_lt h1]
theorem DvJ.start {A D V n m s : Nat} {R : List Nat} (hR : natOf R = A * 2 ^ s) (_hV : V = D * 2 ^ s) (hl : R.length = m + 1 + n) (lR : Lim R) (hn : 1 ≤ n) (hA : A < 4294967296 ^ (m + n)) (hD : 4294967296 ^ (n - 1) * 2147483648 ≤ V) (hs : s ≤ 31) :
  DvJ (A * 2 ^ s) V n m (m + 1) R (List.replicate (m + 1) 0) := by
 refine ⟨hl, by simp, lR, Lim.zeros _, by rw [dl, hR]; rfl, ?_, fun i hi => ?_, Nat.le_refl _⟩
 ·have e := dD R (k := m + 1) (by omega)
  have hp : (2 : Nat) ^ s ≤ 2147483648 := Nat.le_trans (Nat.pow_le_pow_right (by decide) hs) (by decide)
  rcases Nat.lt_or_ge (natOf (R.drop (m + 1))) V with h | h
  ·exact h
  ·exfalso
   have h1 : 4294967296 ^ (m + 1) * V ≤ 4294967296 ^ (m + 1) * natOf (R.drop (m + 1)) := Nat.mul_le_mul_left _ h
   have h2 : 4294967296 ^ (m + 1) * (4294967296 ^ (n - 1) * 2147483648) ≤ 4294967296 ^ (m + 1) * V := Nat.mul_le_mul_left _ hD
   rw [← Nat.mul_assoc, ← Nat.pow_add, show m + 1 + (n - 1) = m + n by omega] at h2
   have h3 : A * 2 ^ s < 4294967296 ^ (m + n) * 2147483648 := Nat.lt_of_le_of_lt (Nat.mul_le_mul_left _ hp) (Nat.mul_lt_mul_of_pos_right hA (by decide))
   omega
 ·simp [List.getD_eq_getElem?_getD, List.getElem?_replicate]
  split <;> rfl
theorem pQ {ls S : List Nat} {s : Nat} (_hc : Canon ls) (hL : Lim ls) (hn : 1 ≤ ls.length) (hS : S.length = ls.length + 1) (lS : Lim S) (hN : natOf S = natOf ls * 2 ^ s) (h1 : 2147483648 ≤ ls.getD (ls.length - 1) 0 * 2 ^ s) (h2 : ls.getD (ls.length - 1) 0 * 2 ^ s < 4294967296) (hs : s ≤ 31) :
  natOf (S.take ls.length) = natOf ls * 2 ^ s ∧ 2147483648 ≤ (S.take ls.length).getD (ls.length - 1) 0 ∧ natOf ls * 2 ^ s < 4294967296 ^ ls.length ∧ 4294967296 ^ (ls.length - 1) * 2147483648 ≤ natOf ls * 2 ^ s := by
 obtain ⟨n, hn'⟩ : ∃ n, ls.length = n + 1 := ⟨ls.length - 1, by omega⟩
 rw [hn'] at hS h1 h2 ⊢
 rw [Nat.add_sub_cancel] at h1 h2 ⊢
 have e := dD ls (k := n) (by omega)
 rw [dg (by omega), List.drop_of_length_le (by omega)] at e
 simp only [natOf, Nat.mul_zero, Nat.add_zero] at e
 have hlow := bQ (hL.take n)
 rw [List.length_take, hn', Nat.min_eq_left (by omega)] at hlow
 generalize ls.getD n 0 = x at *
 generalize natOf (ls.take n) = y at *
 have hP : 0 < 2 ^ s := Nat.two_pow_pos s
 have hdiv : (x + 1) * 2 ^ s ≤ 4294967296 := by
  have hb : (4294967296 : Nat) = 2 ^ (32 - s) * 2 ^ s := by rw [← Nat.pow_add, show 32 - s + s = 32 by omega]
  have : x < 2 ^ (32 - s) := Nat.lt_of_mul_lt_mul_right (a := 2 ^ s) (by rw [← hb]; exact h2)
  rw [hb]; exact Nat.mul_le_mul_right _ this
 have g1 : natOf ls * 2 ^ s < 4294967296 ^ (n + 1) := by
  rw [e, Nat.pow_succ]
  have : (y + 4294967296 ^ n * x) + 1 ≤ 4294967296 ^ n * (x + 1) := by rw [Nat.mul_add]; omega
  have h3 := Nat.mul_le_mul_right (2 ^ s) this
  have h4 : 4294967296 ^ n * ((x + 1) * 2 ^ s) ≤ 4294967296 ^ n * 4294967296 := Nat.mul_le_mul_left _ hdiv
  rw [← Nat.mul_assoc] at h4
  rw [Nat.add_mul _ 1] at h3
  omega
 have g2 : 4294967296 ^ n * 2147483648 ≤ natOf ls * 2 ^ s := by
  rw [e]
  have : 4294967296 ^ n * 2147483648 ≤ 4294967296 ^ n * (x * 2 ^ s) := Nat.mul_le_mul_left _ h1
  rw [Nat.add_mul, Nat.mul_assoc]; omega
 have hS0 : natOf S = natOf (S.take (n + 1)) + S.getD (n + 1) 0 * 4294967296 ^ (n + 1) := by
  have := dD S (k := n + 1) (by omega)
  rw [dg (by omega), List.drop_of_length_le (by omega)] at this
  simp only [natOf, Nat.mul_zero, Nat.add_zero] at this
  rw [this, Nat.mul_comm (4294967296 ^ (n + 1))]
 have hz : S.getD (n + 1) 0 = 0 := by
  rcases Nat.eq_zero_or_pos (S.getD (n + 1) 0) with h | h
  ·exact h
  ·exfalso
   have : 1 * 4294967296 ^ (n + 1) ≤ S.getD (n + 1) 0 * 4294967296 ^ (n + 1) := Nat.mul_le_mul_right _ h
   omega
 rw [hz, Nat.zero_mul, Nat.add_zero] at hS0
 refine ⟨by omega, ?_, g1, g2⟩
 have hT : Lim (S.take (n + 1)) := lS.take _
 have e2 := dD (S.take (n + 1)) (k := n) (by rw [List.length_take]; omega)
 rw [dg (by rw [List.length_take]; omega), List.drop_of_length_le (by rw [List.length_take]; omega)] at e2
 simp only [natOf, Nat.mul_zero, Nat.add_zero] at e2
 have hlow2 := bQ (hT.take n)
 rw [List.length_take, List.length_take] at hlow2
 rw [show min n (min (n + 1) S.length) = n by omega] at hlow2
 rcases Nat.lt_or_ge ((S.take (n + 1)).getD n 0) 2147483648 with h | h
 ·exfalso
  have : 4294967296 ^ n * ((S.take (n + 1)).getD n 0 + 1) ≤ 4294967296 ^ n * 2147483648 := Nat.mul_le_mul_left _ h
  rw [Nat.mul_add] at this
  omega
 ·exact h
theorem pR {ls : List Nat} {a : Option Addr} {c : Nat} {w : World} (h : Limbs w a c ls) (h0 : 0 < ls.length) : CallsR Tryz.prog 146 #[.slice a ls.length c] w fun v w' =>
  ∃ g c', v = .slice (some ⟨g, 0, none⟩) ls.length c' ∧ Own w' w.heap.size 85 1 (some ⟨g, 0, none⟩) ls.length c' (limbsL ls) ∧ Ex w w' := by
 have hlen := h.len
 obtain ⟨g0, o0, rfl⟩ := h.sl.plain (by simpa using h0)
 refine aE (args := [_]) Tryz.func146 rfl rfl ?_
 repeat' (first|refine jL rfl rfl ?_|refine om (fun g w1 hn1 => tvv ?_)|refine aj rfl ?_|refine aa ?_|refine ak ?_|refine ai rfl ?_|refine ah ?_|refine ao rfl ?_|refine aC ?_)
 have hs1 := h.sl.ext hn1.ex
 refine dZ (z := .int .u32 0) (s := 1) (vs := []) (lo := w.heap.size) (news := limbsL ls) rfl rfl rfl rfl (hn1.blk.own rfl (Nat.zero_le _) hn1.lo) hs1 (h.sl.plain (by simp; omega)) (by simp) (kX (fun _ => rfl) _) (by omega) (by omega) hn1.ex.size ?_
 intro a' c' w2 ho hg hA
 refine tvv ?_
 rw [Nat.zero_add] at ho ⊢
 have hE : Ex w w2 := iu hg hn1.ex (by rintro _ ⟨⟩; exact hn1.lo)
 repeat' (first|refine aj rfl ?_|refine aa ?_|refine ah ?_|refine aK ?_)
 obtain ⟨g', rfl⟩ : ∃ g', a' = some ⟨g', 0, none⟩ := by
  rcases ho.2 with ⟨e, e'⟩ | ⟨g', cp, cur, e, _⟩
  ·omega
  ·cases e; exact ⟨_, rfl⟩
 exact bo rfl (rt rfl) ⟨_, c', rfl, ho, hE⟩
def RetQR (w : World) (q r : Nat) (v : Value) (w' : World) : Prop := ∃ a1 c1 l1 a2 c2 l2, v = .tuple #[.slice a1 (List.length l1) c1, .slice a2 (List.length l2) c2] ∧ Limbs w' a1 c1 l1 ∧ Limbs w' a2 c2 l2 ∧ Canon l1 ∧ Canon l2 ∧ natOf l1 = q ∧ natOf l2 = r ∧
 (∀ ad, a1 = some ad → w.heap.size ≤ ad.block) ∧ (∀ ad, a2 = some ad → w.heap.size ≤ ad.block) ∧ Ex w w'
theorem mq {la lb : List Nat} (ha : Lim la) (cb : Canon lb) (h : natOf lb ≤ natOf la) : lb.length ≤ la.length := by
 rcases Nat.lt_or_ge la.length lb.length with h' | h'
 ·have := fu ha cb h'; omega
 ·exact h'
theorem pS {la lb : List Nat} {a b : Option Addr} {c d : Nat} {w : World} (ha : Limbs w a c la) (hb : Limbs w b d lb) (ca : Canon la) (cb : Canon lb) (hpos : 0 < natOf lb) (hlen : la.length < 17592186044416) :
  CallsR Tryz.prog 160 #[.slice a la.length c, .slice b lb.length d] w (RetQR w (natOf la / natOf lb) (natOf la % natOf lb)) := by
 by_cases hsm : la.length ≤ 2 ∧ natOf lb ≤ natOf la
 ·refine (jF ha hb ca cb hsm.1 hpos hsm.2).mono fun v w' h => ?_
  obtain ⟨a1, c1, a2, c2, h1, h2, h3, h4, h5, h6⟩ := h
  exact ⟨a1, c1, _, a2, c2, _, h1, h2, h3, dH _, dH _, dS, dS, h4, h5, h6⟩
 refine aE (args := [_, _]) Tryz.func160 rfl rfl ?_
 repeat' (first|refine aj rfl ?_|refine aa ?_|refine ak ?_|refine ai rfl ?_|refine ah ?_|refine ay ?_)
 refine au (d7 ha hb ca cb) rfl ?_
 rintro v w1 ⟨rfl, hE1⟩
 refine tvv ?_
 have hcmp : cmpZ (natOf la) (natOf lb) < 0 ↔ natOf la < natOf lb := by
  have := @kZ (natOf la) (natOf lb)
  omega
 have ha1 := ha.ext hE1
 have hb1 := hb.ext hE1
 repeat' (first|refine aj rfl ?_|refine aa ?_|refine ak ?_|refine ai rfl ?_|refine ah ?_|refine bc rfl ?_|refine aQ rfl (fun hc => ?_) (fun hc => ?_)|refine aJ ?_|refine aC ?_)
 ·
  refine au (kG ha1) rfl ?_
  rintro v w2 ⟨a2, c2, rfl, hL2, hf2, hE2⟩
  refine tvv ?_
  repeat' (first|refine aj rfl ?_|refine aa ?_|refine ah ?_|refine aK ?_|refine bf ?_|refine cj ?_)
  have hlt := hcmp.1 (by assumption)
  have s1 := hE1.size
  exact dw rfl (rt rfl) (rt rfl) ⟨none, 0, [], a2, c2, la, rfl, Limbs.nil _ _ _, hL2, rfl, ca, (Nat.div_eq_of_lt hlt).symm, (Nat.mod_eq_of_lt hlt).symm, fun ad e => (nomatch e), fun ad e => by have := hf2 ad e; omega, hE1.trans hE2⟩
 ·have := mt hcmp.2 (by assumption); omega
 all_goals (
  have hge : natOf lb ≤ natOf la := by have := mt hcmp.2 (by assumption); omega
  have hl2 : 2 < la.length := by omega
  have hll := mq ha.lim cb hge
  have hbn : lb ≠ [] := fun e => by rw [e] at hpos; simp [natOf] at hpos
  have hb0 : 1 ≤ lb.length := List.length_pos_iff.2 hbn)
 ·
  have hlb1 : lb.length = 1 := by omega
  refine au (pR ha1 (by omega)) rfl ?_
  rintro v w2 ⟨g2, c2, rfl, hO2, hE2⟩
  refine tvv ?_
  have hbn0 : natOf lb = lb.getD 0 0 := by
   match lb, hlb1 with
   | [x], _ => simp [natOf]
  have hbl := hb.lim.getD 0
  repeat' (first|(refine az (j := 0) rfl rfl (hb.sl.plain (by simp; omega)) (by omega) ?_)|refine bI rfl ((hb1.ext hE2).sl) (by omega) ?_|refine aj rfl ?_|refine aa ?_|refine ak ?_|refine ai rfl ?_|refine ah ?_)
  have s1 := hE1.size
  refine au (jM hO2 ha.lim (b := lb.getD 0 0) (by omega) hbl (by omega)) rfl ?_
  rintro v w3 ⟨L, rfl, hC3, hO3, hL3, hLl, hN3⟩
  refine tvv ?_
  repeat' (first|refine aj rfl ?_|refine aa ?_|refine ak ?_|refine ai rfl ?_|refine ah ?_)
  have hg2 := (hO2.lo _ rfl).1
  have hE3 : Ex w w3 := (hE1.trans hE2).chg hC3 (by simp only at hg2; omega)
  have hlimbs : Limbs w3 (some ⟨g2, 0, none⟩) c2 L := ⟨hO3.sl, by rw [hLl]; exact hO3.cap, hL3, by omega⟩
  rw [← hLl]
  refine au (cw hlimbs) rfl ?_
  rintro v w4 ⟨rfl, hE4⟩
  refine tvv ?_
  have hm := Nat.mod_lt (natOf la) (show 0 < lb.getD 0 0 by omega)
  repeat' (first|refine iw rfl (by omega) ?_|refine aj rfl ?_)
  refine au (dK (n := natOf la % lb.getD 0 0) (by omega) _) rfl ?_
  rintro v w5 ⟨a5, c5, rfl, hL5, hf5, hE5⟩
  refine tvv ?_
  repeat' (first|refine aj rfl ?_|refine aa ?_|refine ah ?_|refine aK ?_|refine bf ?_|refine cj ?_)
  have s4 := hE3.size
  have s5 := hE4.size
  refine dw rfl (rt rfl) (rt rfl) ⟨_, c2, trimL L, a5, c5, _, rfl, ((hlimbs.ext hE4).ext hE5).trim, hL5, bA _, dH _, ?_, ?_, fun ad e => ?_, fun ad e => by have := hf5 ad e; omega, (hE3.trans hE4).trans hE5⟩
  ·rw [bh, hN3, hbn0]
  ·rw [dS, hbn0]
  ·cases e; simp only at hg2 ⊢; omega
 ·
  obtain ⟨m, hm⟩ : ∃ m, la.length = m + lb.length := ⟨la.length - lb.length, by omega⟩
  obtain ⟨n, hn⟩ : ∃ n, lb.length = n := ⟨_, rfl⟩
  have hn2 : 2 ≤ n := by
   rcases Nat.lt_or_ge n 2 with h | h
   ·exact absurd (show ((lb.length : Nat) : Int) = 1 by omega) (by assumption)
   ·exact h
  have htop0 : 0 < lb.getD (lb.length - 1) 0 := by
   have h1 := jE cb hbn
   have e := dD lb (k := lb.length - 1) (by omega)
   rw [dg (by omega), List.drop_of_length_le (by omega)] at e
   simp only [natOf, Nat.mul_zero, Nat.add_zero] at e
   have h2 := bQ (hb.lim.take (lb.length - 1))
   rw [List.length_take, Nat.min_eq_left (by omega)] at h2
   rcases Nat.eq_zero_or_pos (lb.getD (lb.length - 1) 0) with h | h
   ·rw [h, Nat.mul_zero] at e; omega
   ·exact h
  have htopl := hb.lim.getD (lb.length - 1)
  have hbp := hb.sl.plain (by simp; omega)
  repeat' (first|refine ka (m := lb.length) (m' := 1) rfl rfl (by omega) (by omega) ?_|refine az (j := lb.length - 1) rfl rfl hbp (by omega) ?_|refine bI rfl hb1.sl (by omega) ?_)
  refine au (sF htopl htop0 _) rfl ?_
  rintro v w2 ⟨s, rfl, rfl, hs, ht1, ht2⟩
  refine tvv ?_
  repeat' (first|refine aj rfl ?_|refine aa ?_|refine ak ?_|refine ai rfl ?_|refine ah ?_)
  refine au (iE hb1 hs (by omega)) rfl ?_
  rintro v w3 ⟨g3, V, rfl, hg3, hB3, hVl, hV, hVN, _, hE3⟩
  refine tvv ?_
  obtain ⟨t1, t2, t3, t4⟩ := pQ cb hb.lim hb0 hVl hV hVN ht1 ht2 hs
  repeat' (first|refine j5 (n := (lb.length : Int)) rfl rfl (by omega) (by omega) ?_|refine aj rfl ?_|refine aa ?_|refine ak ?_|refine ai rfl ?_|refine ah ?_|refine bc rfl ?_)
  have ha3 := ha1.ext hE3
  refine au (iE ha3 hs (by omega)) rfl ?_
  rintro v w4 ⟨g4, R, rfl, hg4, hB4, hRl, hR, hRN, _, hE4⟩
  refine tvv ?_
  have q1 : ((m + 1 : Nat) : Int) = (la.length : Int) - (lb.length : Int) + 1 := by omega
  have q2 : ((m : Nat) : Int) = (la.length : Int) - (lb.length : Int) := by omega
  repeat' (first|refine bK rfl rfl (by omega) (by omega) ?_|refine aV rfl rfl (by omega) (by omega) ?_|(rw [← q1])|refine fT (k := .u32) (n := m + 1) rfl rfl (by omega) (by omega) (fun g5 w5 hn5 => tvv ?_)|(rw [← q2])|refine aj rfl ?_|refine aa ?_|refine ak ?_|refine ai rfl ?_|refine ah ?_|refine bc rfl ?_|refine ay ?_)
  have hB5 : Blk w5 g5 85 (limbsL (List.replicate (m + 1) 0)) := hn5.blk
  have s1 := hE1.size
  have s3 := hE3.size
  have s4 := hE4.size
  have s5 := hn5.ex.size
  have l3 := hB3.lt
  have l4 := hB4.lt
  have l5 := hn5.lo
  have d34 : g3 ≠ g4 := by omega
  have d35 : g3 ≠ g5 := by omega
  have d45 : g4 ≠ g5 := by omega
  have hVlt := bQ hV
  have hst := DvJ.start (A := natOf la) (D := natOf lb) (V := natOf lb * 2 ^ s) (m := m) (n := lb.length) hRN rfl (by omega) hR hb0 (by rw [← hm]; exact bQ ha.lim) t4 hs
  have hV0 : 0 < natOf lb * 2 ^ s := Nat.mul_pos hpos (Nat.two_pow_pos s)
  have hVtl : (V.take lb.length).length = lb.length := by rw [List.length_take]; omega
  refine aW (ι := Nat × List Nat × List Nat) [12, 80, 81, 82, 83, 84, 85, 86, 87, 88, 89, 90, 91, 92, 93, 94, 95, 96] (fun t => [(12, .int .i64 ((t.1 : Int) - 1))])
   (fun t w' => DvJ (natOf la * 2 ^ s) (natOf lb * 2 ^ s) lb.length m t.1 t.2.1 t.2.2 ∧ Blk w' g3 85 (limbsL V) ∧ Blk w' g4 85 (limbsL t.2.1) ∧ Blk w' g5 85 (limbsL t.2.2) ∧ Ex w w') (fun t => t.1)
   (m + 1, R, List.replicate (m + 1) 0) ⟨by show Value.int .i64 (m : Int) = Value.int .i64 (((m + 1 : Nat) : Int) - 1); rw [show ((m + 1 : Nat) : Int) - 1 = (m : Int) by omega], trivial⟩
   ⟨hst, (hB3.ext hE4).ext hn5.ex, hB4.ext hn5.ex, hB5, ((hE1.trans hE3).trans hE4).trans hn5.ex⟩ ?_
  rintro ⟨k, R1, Q1⟩ ξ w6 ⟨hJ, hB3, hB4, hB5, hEx⟩
  simp only at hJ hB4 hB5
  have hkm := hJ.le
  show CW _ _ _ _ (over [(12, .int .i64 ((k : Int) - 1))] _) w6
  repeat' (first|refine aj rfl ?_|refine aa ?_|refine ak ?_|refine ai rfl ?_|refine ah ?_|refine bc rfl ?_|refine aV rfl rfl (by omega) (by omega) ?_|refine aQ rfl (fun hc => ?_) (fun hc => ?_)|refine ay ?_|refine aT ?_|refine aO ?_|refine aU ?_|refine aC ?_)
  ·obtain ⟨j, rfl⟩ : ∃ j, k = j + 1 := ⟨k - 1, by omega⟩
   rw [show ((j + 1 : Nat) : Int) - 1 = (j : Int) by omega]
   obtain ⟨p1, p2, p3, p4, p5⟩ := hJ.pre t3
   have hrl := hJ.rl
   have hVL : Limbs w6 (some ⟨g3, 0, none⟩) (lb.length + 1) (V.take lb.length) := ⟨by unfold limbsL; rw [List.map_take]; exact hB3.sl.take _, by omega, hV.take _, by omega⟩
   repeat' (first|refine np (l := j) (h := j + lb.length + 1) rfl rfl rfl (by omega) (by omega) (by omega) ?_|refine aj rfl ?_)
   rw [show (0 + j * 1 : Nat) = (R1.take j).length by omega, show j + lb.length + 1 - j = lb.length + 1 by omega]
   refine au (kR (S := (R1.drop j).take (lb.length + 1)) (H := R1.drop (j + (lb.length + 1))) (by rw [← p5]; exact hB4) p3 ((Lim.drop hJ.lr j).take _) hVL hVtl (by omega) t2 (by rw [t1]; exact p1) (fun ad e => by cases e; exact d34)) rfl ?_
   rintro v w7 ⟨S', rfl, hC7, hB7, hSl, hSL, hSN⟩
   refine tvv ?_
   have hQl := hJ.ql
   rw [t1] at hSN ⊢
   repeat' (first|refine az (j := j) rfl rfl ⟨_, _, rfl⟩ (by omega) ?_|refine d4 rfl rfl (hB5.chg hC7 (Ne.symm d45)) (by omega) (fun w8 hc8 hb8 => tvv ?_)|refine aj rfl ?_|refine aa ?_|refine ai rfl ?_|refine ah ?_|refine bK rfl rfl (by omega) (by omega) ?_|refine aJ ?_)
   have sx := hEx.size
   refine ⟨⟨(j, _, _), ⟨hJ.step t3 hV0 hSl hSL hSN, (hB3.chg hC7 d34).chg hc8 d35, hB7.chg hc8 d45, hb8, (hEx.chg hC7 (by omega)).chg hc8 (by omega)⟩, Nat.lt_succ_self j, rfl, trivial⟩, (by (repeat (first|exact aG _ _ _|refine aB rfl ?_|refine ax rfl ?_|refine av rfl ?_|refine aw rfl ?_)))⟩
  ·obtain rfl : k = 0 := by omega
   obtain ⟨f1, f2⟩ := hJ.fin
   rw [Nat.mul_div_mul_right _ _ (Nat.two_pow_pos s)] at f1
   rw [Nat.mul_mod_mul_right] at f2
   have hrl := hJ.rl
   have hql := hJ.ql
   have e4 : la.length + 1 = R1.length := by omega
   rw [e4]
   refine au (kQ hB4 hJ.lr hs (by omega)) rfl ?_
   rintro v w7 ⟨hC7, hB7⟩
   refine tvv ?_
   repeat' (first|refine aj rfl ?_|refine aa ?_|refine ak ?_|refine ai rfl ?_|refine ah ?_)
   have hE7 := hEx.chg hC7 (by omega)
   have hB57 := hB5.chg hC7 (Ne.symm d45)
   have hLQ : Limbs w7 (some ⟨g5, 0, none⟩) (m + 1) Q1 := ⟨hB57.sl, by omega, hJ.lq, by omega⟩
   rw [show m + 1 = Q1.length by omega] at hLQ ⊢
   refine au (cw hLQ) rfl ?_
   rintro v w8 ⟨rfl, hE8⟩
   refine tvv ?_
   have hsl := l0 s R1
   have hLR : Limbs w8 (some ⟨g4, 0, none⟩) R1.length (shrL s R1) := ⟨(hB7.ext hE8).sl, by omega, pD s R1, by omega⟩
   repeat' (first|refine aj rfl ?_)
   rw [← hsl] at hLR ⊢
   refine au (cw hLR) rfl ?_
   rintro v w9 ⟨rfl, hE9⟩
   refine tvv ?_
   repeat' (first|refine aj rfl ?_|refine aa ?_|refine ah ?_|refine aK ?_)
   refine dw rfl (rt rfl) (rt rfl) ⟨_, _, trimL Q1, _, _, trimL (shrL s R1), rfl, ((hLQ.ext hE8).ext hE9).trim, (hLR.ext hE9).trim, bA _, bA _, ?_, ?_, fun ad e => ?_, fun ad e => ?_, (hE7.trans hE8).trans hE9⟩
   ·rw [bh, f1]
   ·rw [bh, ma (by omega) hJ.lr, f2, Nat.mul_div_cancel _ (Nat.two_pow_pos s)]
   ·cases e; simp only; omega
   ·cases e; simp only; omega
theorem uC {n1 n2 : Bool} {N D : Nat} (hD : 0 < D) :
  (n1 = false → sgn n1 N / sgn n2 D = sgn n2 (N / D) ∧ sgn n1 N % sgn n2 D = ((N % D : Nat) : Int)) ∧
  (n1 = true → N % D = 0 → sgn n1 N / sgn n2 D = sgn (!n2) (N / D) ∧ sgn n1 N % sgn n2 D = ((N % D : Nat) : Int)) ∧
  (n1 = true → 0 < N % D → sgn n1 N / sgn n2 D = sgn (!n2) (N / D + 1) ∧ sgn n1 N % sgn n2 D = ((D - N % D : Nat) : Int)) := by
 obtain ⟨⟨a1, a2⟩, ⟨b1, b2⟩, hc, hd⟩ := mc (N := N) hD
 have hlt := Nat.mod_lt N hD
 refine ⟨fun h => ?_, fun h h0 => ?_, fun h h0 => ?_⟩
 ·subst h; cases n2 <;> simp only [sgn, if_true, Bool.false_eq_true, if_false]
  ·exact ⟨a1, a2⟩
  ·exact ⟨b1, b2⟩
 ·obtain ⟨c1, c2, c3, c4⟩ := hc h0
  subst h; cases n2 <;> simp only [sgn, if_true, Bool.false_eq_true, if_false, Bool.not_true, Bool.not_false]
  ·exact ⟨c1, by rw [c2, h0]; rfl⟩
  ·exact ⟨c3, by rw [c4, h0]; rfl⟩
 ·obtain ⟨c1, c2, c3, c4⟩ := hd (by omega)
  subst h; cases n2 <;> simp only [sgn, if_true, Bool.false_eq_true, if_false, Bool.not_true, Bool.not_false]
  ·exact ⟨by rw [c1]; omega, by rw [c2]; omega⟩
  ·exact ⟨by rw [c3]; omega, by rw [c4]; omega⟩
theorem bz {p q : Nat} {v1 v2 : Value} {x y : Int} {w : World} (h1 : IntK p w v1 x) (h2 : IntK q w v2 y) (hp : p < 17592186044415) (_hq : q < 17592186044415) :
  CallsR Tryz.prog 147 #[v1, v2] w fun v w' => ∃ q r, v = .tuple #[q, r, .bool (decide (y ≠ 0))] ∧ IntC w.heap.size w' q (x / y) ∧ IntC w.heap.size w' r (if y = 0 then 0 else x % y) ∧ Ex w w' := by
 obtain ⟨n1, a1, c1, l1, rfl, hL1, rfl, hp1⟩ := h1
 obtain ⟨n2, a2, c2, l2, rfl, hL2, rfl, hq1⟩ := h2
 have tl1 := cX l1
 have tl2 := cX l2
 refine aE (args := [_, _]) Tryz.func147 rfl rfl ?_
 refine ak ?_
 refine ai rfl ?_
 refine bC rfl (fun g2 w2 hn2 => tvv ?_)
 refine bC rfl (fun g3 w3 hn3 => tvv ?_)
 refine aH (fun g4 w4 hn4 => tvv ?_)
 refine aH (fun g5 w5 hn5 => tvv ?_)
 have hb2 := ((hn2.blk.ext hn3.ex).ext hn4.ex).ext hn5.ex
 have hb3 := (hn3.blk.ext hn4.ex).ext hn5.ex
 have hb4 : Blk w5 g4 34 (intL false none 0 0) := hn4.blk.ext hn5.ex
 have hb5 : Blk w5 g5 34 (intL false none 0 0) := hn5.blk
 have hE := ((hn2.ex.trans hn3.ex).trans hn4.ex).trans hn5.ex
 have s3 := (hn2.ex.trans hn3.ex).size
 have s4 := hn4.ex.size
 have s5 := hn5.ex.size
 have lo4 := hn4.lo
 have hi4 := hn4.hi
 have lo5 := hn5.lo
 have hi5 := hn5.hi
 have ne45 : g4 ≠ g5 := by omega
 repeat' (first|refine aP rfl hb3 rfl ?_|refine aj rfl ?_|refine aa ?_|refine ak ?_|refine ai rfl ?_|refine ah ?_|refine aM rfl ?_)
 refine au (cw (hL2.ext hE)) rfl ?_
 rintro v w6 ⟨rfl, hE6⟩
 refine tvv ?_
 have hE56 := hE6
 have hE6 := hE.trans hE6
 have hy0 : sgn n2 (natOf l2) = 0 ↔ natOf l2 = 0 := by unfold sgn; cases n2 <;> simp
 repeat' (first|refine aP rfl (hb2.ext hE56) rfl ?_|refine da (cs := intL false none 0 0) rfl ?_|refine aj rfl ?_|refine aa ?_|refine ak ?_|refine ai rfl ?_|refine ah ?_|refine bc rfl ?_|refine aM rfl ?_|refine aQ rfl (fun hc => ?_) (fun hc => ?_)|refine aC ?_)
 ·
  have hz : natOf l2 = 0 := cI.1 (List.eq_nil_of_length_eq_zero (by omega))
  refine aF (n := 2) rfl rfl rfl rfl (hb4.ext hE56) rfl (fun w7 hc7 hb7 => tvv ?_)
  refine aF (n := 2) rfl rfl rfl rfl ((hb5.ext hE56).chg hc7 (Ne.symm ne45)) rfl (fun w8 hc8 hb8 => tvv ?_)
  repeat' (first|refine aj rfl ?_|refine aa ?_|refine ah ?_|refine aK ?_|refine bf ?_)
  have hlim : ∀ w, Limbs w none 0 [] := fun w => Limbs.nil _ _ _
  have hI : ∀ w, IntC w5.heap.size w (.agg (intL false none 0 0).toArray) 0 := fun w => ⟨false, none, 0, [], rfl, hlim w, rfl, rfl, fun e => (nomatch e), fun ad e => (nomatch e)⟩
  rw [hy0.2 hz, Int.ediv_zero]
  refine eJ rfl (rc rfl rfl (hb7.chg hc8 ne45)) (rc rfl rfl hb8) (rt rfl) ⟨_, _, rfl, (hI _).mono (by omega), ?_, (hE6.chg hc7 (by omega)).chg hc8 (by omega)⟩
  rw [if_pos rfl]; exact (hI _).mono (by omega)
 ·have hpos : 0 < natOf l2 := by
   rcases Nat.eq_zero_or_pos (natOf l2) with h | h
   ·exfalso; have h0 : (trimL l2).length = 0 := by rw [cI.2 h]; rfl
    omega
   ·exact h
  have hyne : sgn n2 (natOf l2) ≠ 0 := fun e => by have := hy0.1 e; omega
  refine au (cw (hL1.ext hE6)) rfl ?_
  rintro v w7 ⟨rfl, hE7⟩
  refine tvv ?_
  have hE57 := hE56.trans hE7
  repeat' (first|refine aj rfl ?_)
  refine au (pS ((hL1.ext (hE6.trans hE7)).trim) ((hL2.ext (hE6.trans hE7)).trim) (bA _) (bA _) (by rw [bh]; exact hpos) (by omega)) rfl ?_
  rintro v w8 ⟨a8, c8, l8, a9, c9, l9, rfl, hL8, hL9, hC8, hC9, hq8, hq9, hlo8, hlo9, hE8⟩
  refine tvv ?_
  rw [bh, bh] at hq8 hq9
  have hE58 := hE57.trans hE8
  have s7 := hE57.size
  have s8 := hE8.size
  have hl8 := hL8.len
  have hl9 := hL9.len
  repeat' (first|refine aP rfl (hb3.ext hE58) rfl ?_|refine aj rfl ?_|refine aa ?_|refine ak ?_|refine ai rfl ?_|refine ah ?_|refine aM rfl ?_)
  have hb48 := hb4.ext hE58
  have hb58 := hb5.ext hE58
  refine dy (ι := Bool × (Option Addr × List Nat × Nat) × (Option Addr × List Nat × Nat)) [8, 9, 10, 29, 30, 31, 32, 33, 34, 35, 36, 37, 38, 39, 40, 41, 42, 43, 44, 45, 46, 47] (fun t => [(10, .bool t.1), (8, .slice t.2.1.1 t.2.1.2.1.length t.2.1.2.2), (9, .slice t.2.2.1 t.2.2.2.1.length t.2.2.2.2)])
   (fun t w' => Ex w8 w' ∧ Limbs w' t.2.1.1 t.2.1.2.2 t.2.1.2.1 ∧ Limbs w' t.2.2.1 t.2.2.2.2 t.2.2.2.1 ∧ Canon t.2.1.2.1 ∧ Canon t.2.2.2.1 ∧ (∀ ad, t.2.1.1 = some ad → w.heap.size ≤ ad.block) ∧ (∀ ad, t.2.2.1 = some ad → w.heap.size ≤ ad.block) ∧
    sgn n1 (natOf l1) / sgn n2 (natOf l2) = sgn t.1 (natOf t.2.1.2.1) ∧ sgn n1 (natOf l1) % sgn n2 (natOf l2) = ((natOf t.2.2.2.1 : Nat) : Int)) ?_ ?_
  ·obtain ⟨ed1, ed2, ed3⟩ := uC (n1 := n1) (n2 := n2) (N := natOf l1) hpos
   have hln : (l9.length = 0 ↔ natOf l1 % natOf l2 = 0) := by
    rw [← hq9]
    constructor
    ·intro h; rw [List.eq_nil_of_length_eq_zero h]; rfl
    ·intro h; have := cI.2 h; rw [hC9] at this; rw [this]; rfl
   have hmodlt := Nat.mod_lt (natOf l1) hpos
   have hlo8' : ∀ ad, a8 = some ad → w.heap.size ≤ ad.block := fun ad e => by have := hlo8 ad e; have := hE.size; omega
   have hlo9' : ∀ ad, a9 = some ad → w.heap.size ≤ ad.block := fun ad e => by have := hlo9 ad e; have := hE.size; omega
   rcases Bool.eq_false_or_eq_true n1 with rfl | rfl
   ·repeat' (first|refine aP rfl (hb2.ext hE58) rfl ?_|refine gX (k := .u32) (u := 1) rfl (fun g9 w9 hn9 => tvv ?_)|refine aj rfl ?_|refine aa ?_|refine ak ?_|refine ai rfl ?_|refine ah ?_|refine bc rfl ?_|refine bJ rfl rfl ?_|refine aM rfl ?_|refine aA rfl ?_|refine aQ rfl (fun hc => ?_) (fun hc => ?_)|refine ay ?_|refine aT ?_|refine aO ?_|refine aU ?_|refine fw rfl ?_|refine aC ?_)
    ·have hm0 : 0 < natOf l1 % natOf l2 := by
      rcases Nat.eq_zero_or_pos (natOf l1 % natOf l2) with h | h
      ·have := hln.2 h; omega
      ·exact h
     obtain ⟨e1, e2⟩ := ed3 rfl hm0
     have h1L : Limbs w9 (some ⟨g9, 0, none⟩) 1 [1] := ⟨hn9.blk.sl, Nat.le_refl _, fun d hd => by simp at hd; omega, by simp⟩
     have hq8len : l8.length < 17592186044416 := by
      have := mq (hL1.lim.trim) hC8 (by rw [hq8, bh]; exact Nat.div_le_self _ _)
      omega
     refine au (kF (hL8.ext hn9.ex) h1L (by omega) (by simp)) rfl ?_
     rintro v w10 ⟨lq, hNq, hCq, aq, cq, rfl, hLq, hfq, hE10⟩
     refine tvv ?_
     have hE810 := hn9.ex.trans hE10
     have h0E := hE6.trans hE7
     have h010 := ((hE6.trans hE7).trans hE8).trans hE810
     repeat' (first|refine aj rfl ?_|refine aa ?_|refine ai rfl ?_|refine ah ?_)
     refine au (iC ((hL2.ext h010).trim) (hL9.ext hE810) (by rw [bh, hq9]; omega) hC9) rfl ?_
     rintro v w11 ⟨lr, hNr, hCr, ar, cr, rfl, hLr, hfr, hE11⟩
     refine tvv ?_
     repeat' (first|refine aj rfl ?_|refine aa ?_|refine ak ?_|refine ai rfl ?_|refine ah ?_|refine aT ?_|refine aU ?_|refine aJ ?_)
     have s9 := hE.size
     have s10 := hE810.size
     have s99 := hn9.ex.size
     refine ⟨⟨(!n2, (aq, lq, cq), (ar, lr, cr)), ⟨hE810.trans hE11, hLq.ext hE11, hLr, hCq, hCr, fun ad e => by have := hfq ad e; omega, fun ad e => by have := hfr ad e; omega, ?_, ?_⟩, rfl, rfl, rfl, trivial⟩, (by (repeat (first|exact aX _ _|refine aB rfl ?_|refine ax rfl ?_|refine av rfl ?_|refine aw rfl ?_)))⟩
     ·simp only; rw [e1, hNq, hq8]; rfl
     ·simp only; rw [e2, hNr, bh, hq9]
    ·have hm0 : natOf l1 % natOf l2 = 0 := hln.1 (by omega)
     obtain ⟨e1, e2⟩ := ed2 rfl hm0
     refine ⟨⟨(!n2, (a8, l8, c8), (a9, l9, c9)), ⟨Ex.refl _, hL8, hL9, hC8, hC9, hlo8', hlo9', ?_, ?_⟩, rfl, rfl, rfl, trivial⟩, (by (repeat (first|exact aX _ _|refine aB rfl ?_|refine ax rfl ?_|refine av rfl ?_|refine aw rfl ?_)))⟩
     ·simp only; rw [e1, hq8]
     ·simp only; rw [e2, hq9]
   ·repeat' (first|refine aP rfl (hb2.ext hE58) rfl ?_|refine aj rfl ?_|refine aa ?_|refine ak ?_|refine ai rfl ?_|refine ah ?_|refine bY rfl rfl ?_|refine aM rfl ?_|refine ao rfl ?_|refine ay ?_|refine aT ?_|refine aO ?_|refine aU ?_|refine fw rfl ?_|refine aC ?_)
    obtain ⟨e1, e2⟩ := ed1 rfl
    refine ⟨⟨(n2, (a8, l8, c8), (a9, l9, c9)), ⟨Ex.refl _, hL8, hL9, hC8, hC9, hlo8', hlo9', ?_, ?_⟩, rfl, rfl, rfl, trivial⟩, (by (repeat (first|exact aX _ _|refine aB rfl ?_|refine ax rfl ?_|refine av rfl ?_|refine aw rfl ?_)))⟩
    ·simp only; rw [e1, hq8]
    ·simp only; rw [e2, hq9]
  ·rintro ⟨nb, ⟨aq, lq, cq⟩, ⟨ar, lr, cr⟩⟩ ξ w9 ⟨hE9, hLq, hLr, hCq, hCr, hfq, hfr, eq1, eq2⟩
   simp only at hLq hLr hCq hCr hfq hfr eq1 eq2
   show CW _ _ _ _ (over [(10, .bool nb), (8, .slice aq lq.length cq), (9, .slice ar lr.length cr)] _) w9
   clear hlo8 hlo9
   repeat' (first|refine aj rfl ?_|refine ak ?_|refine ai rfl ?_)
   refine au (cQ hLq hCq hfq _) rfl ?_
   rintro v w10 ⟨hI10, hE10⟩
   refine tvv ?_
   repeat' (first|refine aj rfl ?_)
   refine au (cQ (hLr.ext hE10) hCr hfr _) rfl ?_
   rintro v w11 ⟨hI11, hE11⟩
   refine tvv ?_
   obtain ⟨qs, rfl, hql, hqo⟩ := hI10.out
   obtain ⟨rs, rfl, hrl, hro⟩ := hI11.out
   have hE911 := (hE9.trans hE10).trans hE11
   have s911 := hE911.size
   refine aF (n := 2) rfl rfl hql hqo (hb48.ext hE911) rfl (fun w12 hc12 hb12 => tvv ?_)
   refine aF (n := 2) rfl rfl hrl hro ((hb58.ext hE911).chg hc12 (Ne.symm ne45)) rfl (fun w13 hc13 hb13 => tvv ?_)
   repeat' (first|refine aj rfl ?_|refine aa ?_|refine ah ?_|refine aK ?_)
   have b12 := hb48.ext hE911
   have b13 := (hb58.ext hE911).chg hc12 (Ne.symm ne45)
   have hEa := ((hE6.trans hE7).trans hE8).trans hE911
   refine eJ rfl (rc rfl hql (hb12.chg hc13 ne45)) (rc rfl hrl hb13) (rt (v := .bool true) rfl) ⟨_, _, by rw [decide_eq_true hyne], ?_, ?_, (hEa.chg hc12 (by omega)).chg hc13 (by omega)⟩
   ·rw [eq1]; exact ((hI10.ext hE11).gbN b12 (cg _ _ _ _) (dx hc12)).gbN b13 (cg _ _ _ _) (dx hc13)
   ·rw [if_neg hyne, eq2]; exact (hI11.gbN b12 (cg _ _ _ _) (dx hc12)).gbN b13 (cg _ _ _ _) (dx hc13)
theorem mr {m : Nat} (h : m ≤ 9223372036854775808) : IntKind.i64.wrap (IntKind.u64.wrap (-(m : Int))) = -(m : Int) := by
 rcases Nat.eq_zero_or_pos m with rfl | h0
 ·decide
 ·have : IntKind.u64.wrap (-(m : Int)) = 18446744073709551616 - (m : Int) := by
   rw [cY rfl]
   simp only [IntKind.bits]
   omega
  rw [this]
  simp only [IntKind.wrap, IntKind.signed, IntKind.bits]
  simp
  omega
def fits64 (z : Int) : Prop := -9223372036854775808 ≤ z ∧ z < 9223372036854775808
instance (z : Int) : Decidable (fits64 z) := inferInstanceAs (Decidable (_ ∧ _))
theorem kI {p : Nat} {v : Value} {z : Int} {w : World} (hz : IntK p w v z) :
  CallsR Tryz.prog 130 #[v] w fun r w' => r = .tuple #[.int .i64 (if fits64 z then z else 0), .bool (decide (fits64 z))] ∧ Ex w w' := by
 obtain ⟨n1, a1, c1, l1, rfl, hL1, rfl, _⟩ := hz
 have tl := bh l1
 have hlen := hL1.trim.len
 have no : ¬ fits64 (sgn n1 (natOf l1)) → ∀ {v : Value}, v = .tuple #[.int .i64 0, .bool false] → v = .tuple #[.int .i64 (if fits64 (sgn n1 (natOf l1)) then sgn n1 (natOf l1) else 0), .bool (decide (fits64 (sgn n1 (natOf l1))))] := fun h v e => by
   rw [if_neg h, decide_eq_false h, e]
 have yes : fits64 (sgn n1 (natOf l1)) → ∀ {v : Value}, v = .tuple #[.int .i64 (sgn n1 (natOf l1)), .bool true] → v = .tuple #[.int .i64 (if fits64 (sgn n1 (natOf l1)) then sgn n1 (natOf l1) else 0), .bool (decide (fits64 (sgn n1 (natOf l1))))] := fun h v e => by
   rw [if_pos h, decide_eq_true h, e]
 refine aE (args := [_]) Tryz.func130 rfl rfl ?_
 repeat' (first|refine bC rfl (fun g w1 hn1 => tvv ?_)|refine aP rfl hn1.blk rfl ?_|refine aj rfl ?_|refine aa ?_|refine ak ?_|refine ai rfl ?_|refine ah ?_|refine aM rfl ?_)
 refine au (cw (hL1.ext hn1.ex)) rfl ?_
 rintro v w2 ⟨rfl, hE2⟩
 refine tvv ?_
 repeat' (first|refine aj rfl ?_|refine aa ?_|refine ak ?_|refine ai rfl ?_|refine ah ?_|refine bc rfl ?_|refine aQ rfl (fun hc => ?_) (fun hc => ?_)|refine aK ?_|refine bf ?_|refine aC ?_)
 ·have h3 : ¬ fits64 (sgn n1 (natOf l1)) := fun hf => by
   have := jE (bA l1) (by intro e; have h0 := congrArg List.length e; rw [List.length_nil] at h0; omega)
   have h2 := eA (show 2 ≤ (trimL l1).length - 1 by omega)
   unfold fits64 sgn at hf
   split at hf <;> omega
  refine dw rfl (rt rfl) (rt rfl) ⟨no h3 rfl, hn1.ex.trans hE2⟩
 ·have hL := (hL1.ext (hn1.ex.trans hE2)).trim
  refine au (gE hL (by omega)) rfl ?_
  rintro v w3 ⟨rfl, hE3⟩
  refine tvv ?_
  have hb := (hn1.blk.ext hE2).ext hE3
  have hlt := bQ hL1.lim.trim
  have hle := eA (show (trimL l1).length ≤ 2 by omega)
  rw [tl] at *
  have hE := (hn1.ex.trans hE2).trans hE3
  rcases Bool.eq_false_or_eq_true n1 with rfl | rfl
  ·by_cases hf : natOf l1 ≤ 9223372036854775808
   ·have hff : fits64 (sgn true (natOf l1)) := by unfold fits64 sgn; simp; omega
    repeat' (first|refine aP rfl hb rfl ?_|refine fz rfl rfl (by omega) ?_|refine jZ rfl ?_|refine im rfl ?_|refine aj rfl ?_|refine aa ?_|refine ak ?_|refine ai rfl ?_|refine ah ?_|refine bJ rfl rfl ?_|refine aM rfl ?_|refine aA rfl ?_|refine ay ?_|refine aK ?_|refine bf ?_|refine cj ?_)
    exact dw rfl (rt rfl) (rt rfl) ⟨yes hff (by rw [mr hf]; rfl), hE⟩
   ·have hff : ¬ fits64 (sgn true (natOf l1)) := by unfold fits64 sgn; simp; omega
    have hf' : (9223372036854775808 : Int) < ((natOf l1 : Nat) : Int) := by omega
    repeat' (first|refine aP rfl hb rfl ?_|refine fd rfl rfl hf' ?_|refine aj rfl ?_|refine aa ?_|refine ak ?_|refine ai rfl ?_|refine ah ?_|refine bJ rfl rfl ?_|refine bY rfl rfl ?_|refine aM rfl ?_|refine ao rfl ?_|refine ay ?_|refine aJ ?_|refine aK ?_|refine aC ?_)
    exact dw rfl (rt rfl) (rt rfl) ⟨no hff rfl, hE⟩
  ·by_cases hf : natOf l1 < 9223372036854775808
   ·have hff : fits64 (sgn false (natOf l1)) := by unfold fits64 sgn; simp; omega
    repeat' (first|refine aP rfl hb rfl ?_|refine bq rfl rfl (by omega) ?_|refine cF rfl (cK (by omega) (by omega)) ?_|refine aj rfl ?_|refine aa ?_|refine ak ?_|refine ai rfl ?_|refine ah ?_|refine bJ rfl rfl ?_|refine bY rfl rfl ?_|refine aM rfl ?_|refine aA rfl ?_|refine ao rfl ?_|refine ay ?_|refine aK ?_|refine bf ?_|refine cj ?_)
    exact dw rfl (rt rfl) (rt rfl) ⟨yes hff rfl, hE⟩
   ·have hff : ¬ fits64 (sgn false (natOf l1)) := by unfold fits64 sgn; simp; omega
    repeat' (first|refine aP rfl hb rfl ?_|refine bp rfl rfl (by omega) ?_|refine aj rfl ?_|refine aa ?_|refine ak ?_|refine ai rfl ?_|refine ah ?_|refine bJ rfl rfl ?_|refine bY rfl rfl ?_|refine aM rfl ?_|refine ao rfl ?_|refine ay ?_|refine aJ ?_|refine aK ?_|refine aC ?_)
    exact dw rfl (rt rfl) (rt rfl) ⟨no hff rfl, hE⟩
end Go.Proofs.YtpfhfldehaiokaaGreat
