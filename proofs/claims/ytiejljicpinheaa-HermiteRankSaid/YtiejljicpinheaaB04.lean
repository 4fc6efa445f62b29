import Derived.Test.YtiejljicpinheaaA19
import Derived.Test.YtiejljicpinheaaB02
import Derived.Test.YtiejljicpinheaaB03
namespace Go.LA
theorem RbJ.abs {R C k b : Nat} {A B : Mat} {last : Int} {ρ γ : Nat → Nat} (h : RbJ R C A k B last ρ γ) (hb : ∀ r c, r < R → c < C → (A r c).natAbs ≤ b) : ∀ i j, k ≤ i → i < R → k ≤ j → j < C → (B i j).natAbs ≤ ((k + 1) * b) ^ (k + 1) := by
 intro i j h1 h2 h3 h4
 have hkr := h.kzr
 have hkc := h.kc
 rw [h.val i j h1 h2 h3 h4]
 refine jy fun x y hx hy => ?_
 unfold brd
 exact hb _ _ (h.rlt _ (by split <;> omega)) (h.clt _ (by split <;> omega))
end Go.LA
namespace Go.Proofs.Ytiejljicpinheaa
open Go.W Go.LM Go.LA
theorem RbJ.lb {R C k K : Nat} {A B : Mat} {last : Int} {ρ γ : Nat → Nat} (h : RbJ R C A k B last ρ γ) (hb : ∀ r c, r < R → c < C → Lb K (A r c)) (hR : R ≤ 16) : ∀ i j, k ≤ i → i < R → k ≤ j → j < C → Lb (16 * K + 17) (B i j) := by
 intro i j h1 h2 h3 h4
 have h5 := RbJ.abs h (b := 4294967296 ^ K) (fun r c hr hc => Nat.le_of_lt (hb r c hr hc)) i j h1 h2 h3 h4
 have hm : k + 1 ≤ 16 := by omega
 unfold Lb
 refine Nat.lt_of_le_of_lt h5 ?_
 have e1 : (k + 1) * 4294967296 ^ K ≤ 4294967296 ^ (K + 1) := by rw [Nat.pow_succ, Nat.mul_comm]; exact Nat.mul_le_mul_left _ (by omega)
 have e2 := Nat.pow_le_pow_left e1 (k + 1)
 rw [← Nat.pow_mul] at e2
 refine Nat.lt_of_le_of_lt e2 (Nat.pow_lt_pow_right (by decide) ?_)
 have : (K + 1) * (k + 1) ≤ (K + 1) * 16 := Nat.mul_le_mul_left _ hm
 omega
theorem t9 (p k i : Nat) : swp2 p k i = trn k p i := by
 unfold swp2 trn
 by_cases h1 : i = p
 ·by_cases h2 : i = k
  ·rw [if_pos h1, if_pos h2]; omega
  ·rw [if_pos h1, if_neg h2, if_pos h1]
 ·by_cases h2 : i = k
  ·rw [if_neg h1, if_pos h2, if_pos h2]
  ·rw [if_neg h1, if_neg h2, if_neg h2, if_neg h1]
set_option maxHeartbeats 2000000 in
theorem p7 {cn : Bool} {K r c k cap : Nat} {w : World} {a : Option Addr} {s : Nat → SD} {F : Mat} (hM : MX cn K w a r c s F) (hr : 1 ≤ r ∧ r ≤ 1000) (hc : 1 ≤ c ∧ c ≤ 1000) (_hk : k ≤ 1000) :
  CallsR Try.prog 36 #[.slice a r cap, .int .i64 (k : Int)] w fun v w' => ∃ (i j : Nat) (t : Bool), v = .tuple #[.int .i64 (i : Int), .int .i64 (j : Int), .bool t] ∧ (t = true → k ≤ i ∧ i < r ∧ k ≤ j ∧ j < c ∧ F i j ≠ 0) ∧ (t = false → ∀ i j, k ≤ i → i < r → k ≤ j → j < c → F i j = 0) ∧ Ex w w' := by
 have hpt := hM.plain (by omega)
 refine aG (args := [_, _]) Try.func36 rfl rfl ?_
 repeat' (first|refine ai rfl ?_|refine aa ?_|refine aj ?_|refine ah rfl ?_|refine ae ?_|refine aB ?_)
 refine aW (ι := Nat) [4, 5, 6, 7, 8, 10, 11, 12, 13, 14, 15, 16, 17, 18, 19, 20, 21, 22, 23, 24, 25, 26, 27, 28, 29, 30, 31, 32, 33, 34, 35, 36] (fun i => [(7, .int .i64 (i : Int))])
  (fun i w' => (k ≤ i ∧ i ≤ max k r) ∧ Ex w w' ∧ ∀ x y, k ≤ x → x < i → k ≤ y → y < c → F x y = 0) (fun i => max k r - i)
  k ⟨rfl, trivial⟩ ⟨by omega, Ex.refl _, fun x y h1 h2 => by omega⟩ ?_
 rintro i ξ w2 ⟨hi, hE2, hz⟩
 show CW _ _ _ _ (over [(7, .int .i64 (i : Int))] _) w2
 rcases Nat.lt_or_ge i r with hir | hir
 ·have hM2 := hM.ext hE2
  obtain ⟨pa, d, hh, e1, e2, hpp, hS, hEn⟩ := hM2.get hir (by omega)
  repeat' (first|refine bv rfl rfl (show ((i : Nat) : Int) < ((r : Nat) : Int) by omega) ?_|refine ai rfl ?_|refine aa ?_|refine aj ?_|refine ah rfl ?_|refine ae ?_|refine aY rfl ?_|refine aC rfl ?_|refine aB ?_|refine aF ?_)
  refine aW (ι := Nat) [4, 5, 6, 8, 17, 18, 19, 20, 21, 22, 23, 24, 25, 26, 27, 28, 29, 30, 31, 32, 33, 34, 35, 36] (fun j => [(8, .int .i64 (j : Int))])
   (fun j w' => (k ≤ j ∧ j ≤ max k c) ∧ Ex w2 w' ∧ ∀ y, k ≤ y → y < j → y < c → F i y = 0) (fun j => max k c - j)
   k ⟨rfl, trivial⟩ ⟨by omega, Ex.refl _, fun y h1 h2 => by omega⟩ ?_
  rintro j ξ2 w3 ⟨hj, hE3, hz3⟩
  show CW _ _ _ _ (over [(8, .int .i64 (j : Int))] _) w3
  have hM3 := hM2.ext hE3
  rcases Nat.lt_or_ge j c with hjc | hjc
  ·repeat' (first|refine aD (j := i) (a := a) rfl rfl hpt (by omega) ?_|refine aZ (j := i) (a := a) (n := r) (s := s) rfl hM3.top (by omega) e1 ?_|refine bv rfl rfl (show ((j : Nat) : Int) < ((c : Nat) : Int) by omega) ?_|refine bj (j := j) (a := pa) rfl rfl hpp (by omega) ?_|refine bD (j := j) (a := pa) rfl (hS.ext hE3) hpp (by omega) ?_|refine ai rfl ?_|refine aa ?_|refine aj ?_|refine ah rfl ?_|refine ae ?_|refine aY rfl ?_|refine aC rfl ?_|refine aB ?_|refine aF ?_)
   refine aw (kr ((hEn j hjc).ext hE3).k) rfl ?_
   rintro v w4 ⟨rfl, hE4⟩
   refine ⟨fun _ _ => trivial, ?_⟩
   by_cases h : F i j = 0
   ·repeat' (first|(refine dq rfl rfl (by rw [h]; rfl) ?_)|refine ai rfl ?_|refine aa ?_|refine ah rfl ?_|refine ae ?_|refine bi rfl rfl (by omega) (by omega) ?_|refine ay rfl ?_|refine aJ ?_|refine aF ?_)
    refine ⟨⟨j + 1, ⟨by omega, hE3.trans hE4, fun y h1 h2 h3 => ?_⟩, by omega, rfl, trivial⟩, (by (repeat (first|exact aH _ _ _|refine ax rfl ?_|refine av rfl ?_|refine ak rfl ?_|refine ao rfl ?_)))⟩
    by_cases e : y = j
    ·subst e; exact h
    ·exact hz3 y h1 (by omega) h3
   ·repeat' (first|refine eQ rfl rfl (fun e => h (Int.sign_eq_zero_iff_zero.1 e)) ?_|refine ai rfl ?_|refine aa ?_|refine aj ?_|refine ah rfl ?_|refine ae ?_|refine aC rfl ?_|refine aK ?_|refine aX ?_|refine b6 ?_)
    exact eI rfl (rt rfl) (rt rfl) (rt rfl) ⟨i, j, true, rfl, fun _ => ⟨by omega, hir, by omega, hjc, h⟩, fun e => (nomatch e), (hE2.trans hE3).trans hE4⟩
  ·repeat' (first|refine aD (j := i) (a := a) rfl rfl hpt (by omega) ?_|refine aZ (j := i) (a := a) (n := r) (s := s) rfl hM3.top (by omega) e1 ?_|refine bu rfl rfl (show ((c : Nat) : Int) ≤ ((j : Nat) : Int) by omega) ?_|refine ai rfl ?_|refine aa ?_|refine aj ?_|refine ah rfl ?_|refine ae ?_|refine aY rfl ?_|refine bi rfl rfl (by omega) (by omega) ?_|refine ay rfl ?_|refine aS ?_|refine aL ?_|refine aT ?_|refine aJ ?_)
   refine ⟨⟨i + 1, ⟨by omega, hE2.trans hE3, fun x y h1 h2 h3 h4 => ?_⟩, by omega, rfl, trivial⟩, (by (repeat (first|exact aH _ _ _|refine ax rfl ?_|refine av rfl ?_|refine ak rfl ?_|refine ao rfl ?_)))⟩
   by_cases e : x = i
   ·subst e; exact hz3 y h3 (by omega) h4
   ·exact hz x y h1 (by omega) h3 h4
 ·repeat' (first|refine bu rfl rfl (show ((r : Nat) : Int) ≤ ((i : Nat) : Int) by omega) ?_|refine ai rfl ?_|refine aa ?_|refine aj ?_|refine ah rfl ?_|refine ae ?_|refine aY rfl ?_|refine ay rfl ?_|refine aS ?_|refine aL ?_|refine aT ?_|refine aK ?_)
  exact eI rfl (rt rfl) (rt rfl) (rt rfl) ⟨0, 0, false, rfl, fun e => (nomatch e), fun _ x y h1 h2 h3 h4 => hz x y h1 (by omega) h3 h4, hE2⟩
set_option maxHeartbeats 8000000 in
theorem k5 {cn : Bool} {K r c cap : Nat} {w : World} {a : Option Addr} {s : Nat → SD} {A : Mat} (hM : MX cn K w a r c s A) (hr : 1 ≤ r ∧ r ≤ 16) (hc : 1 ≤ c ∧ c ≤ 16) (hK : 16 * K + 17 ≤ 4398046511104) :
  CallsR Try.prog 14 #[.slice a r cap] w fun v w' => ∃ k : Nat, v = .tuple #[.int .i64 (k : Int), .bool true] ∧ Rk r c A k ∧ Ex w w' := by
 refine aG (args := [_]) Try.func14 rfl rfl ?_
 repeat' (first|refine ai rfl ?_|refine aa ?_|refine aj ?_|refine ah rfl ?_|refine ae ?_)
 refine aw (d5 hM.top) rfl ?_
 rintro v w0 ⟨rfl, hE0⟩
 refine ⟨fun _ _ => trivial, ?_⟩
 rw [cK hM hr hc]
 repeat' (first|refine aO rfl rfl ?_|refine ai rfl ?_|refine aa ?_|refine aj ?_|refine ah rfl ?_|refine ae ?_|refine ay rfl ?_|refine aF ?_)
 refine aw (rf (hM.ext hE0) ⟨hr.1, by omega⟩ ⟨hc.1, by omega⟩) rfl ?_
 rintro v w1 ⟨g, gs, cp, rfl, hO1, hE1⟩
 refine ⟨fun _ _ => trivial, ?_⟩
 repeat' (first|refine ai rfl ?_|refine aa ?_|refine aj ?_|refine ah rfl ?_|refine ae ?_)
 refine aw (dY (z := 1) (by omega) (by omega) _) rfl ?_
 rintro v w3 ⟨hI3, hE3⟩
 refine ⟨fun _ _ => trivial, ?_⟩
 obtain ⟨x3, rfl⟩ := hI3.ih
 refine aE (fun g4 w4 hn4 => ⟨fun _ _ => trivial, ?_⟩)
 have hb4 : Blk w4 g4 49 (intL false none 0 0) := hn4.blk
 refine au (n := 2) (vs := x3.cells) rfl rfl rfl rfl hb4 rfl (fun w5 hc5 hb5 => ⟨fun _ _ => trivial, ?_⟩)
 have s0 := hE0.size
 have s1 := hE1.size
 have s3 := hE3.size
 have s4 := hn4.ex.size
 have l4 := hn4.lo
 have hE5 : Ex w w5 := (((hE0.trans hE1).trans hE3).trans hn4.ex).chg hc5 (by omega)
 have hO5 := ((((hO1.ext hE3).ext hn4.ex).gbN hb4 (aA _ _ _ _) (bp hc5) (by have := hO1.lt; omega) (fun k hk => by have := (hO1.row k hk).lt; omega)).up (K' := 16 * K + 17) (by omega)).mono s0
 have hx5 : Ent true (16 * K + 17) w5 x3.val 1 := ((Ent.of hI3 (ch (e := 16 * K + 17) (by decide) (by omega))).ext hn4.ex).gbN hb4 (aA _ _ _ _) (bp hc5)
 have hg4 : ∀ k, k < r → gs k ≠ g4 := fun k hk => by have := (hO1.row k hk).lt; omega
 have hAlb : ∀ i j, i < r → j < c → Lb K (A i j) := fun i j hi hj => hM.lb hi hj
 have hB5 : RbJ r c A 0 A 1 id id := vS (fun _ _ _ _ => rfl)
 have hgg4 : g4 ≠ g := by have := hO1.lt; omega
 have hlo4 : w.heap.size ≤ g4 := by omega
 clear hO1 hc5 hn4 hI3 hE0 hE1 hE3
 repeat' (first|refine ai rfl ?_|refine aa ?_|refine aj ?_|refine ah rfl ?_|refine ae ?_|refine aB ?_)
 refine aW (ι := Nat × Mat × (Nat → Nat) × (Nat → Nat) × IH × Int × (Nat → Nat) × (Nat → Nat)) [2, 3, 9, 10, 11, 12, 13, 14, 15, 27, 28, 29, 30, 31, 32, 33, 34, 35, 36, 37, 38, 39, 40, 41, 42, 43, 44, 45, 46, 47, 48, 49, 50, 51, 52, 53, 54, 55, 56, 57, 58, 59, 60, 61, 62, 63, 64, 65, 66, 67, 68, 69, 70, 71, 72, 73, 74, 75, 76, 77, 78, 79, 80, 81, 82, 83, 84, 85, 86, 87, 88, 89, 90, 91, 92, 93, 94, 95, 96, 97, 98, 99, 100, 101, 102, 103, 104, 105, 106, 107, 108, 109, 110, 111, 112, 113, 114, 115, 116, 117, 118, 119, 120, 121, 122, 123, 124, 125, 126, 127, 128, 129, 130, 131, 132, 133, 134, 135, 136, 137, 138, 139, 140, 141, 142, 143, 144, 145, 146, 147, 148, 149] (fun t => [(9, .int .i64 (t.1 : Int))])
  (fun t w' => (t.1 ≤ r ∧ t.1 ≤ c) ∧ Ex w w' ∧ MO true (16 * K + 17) w' w.heap.size g r c t.2.2.1 t.2.2.2.1 t.2.1 ∧ (∀ k, k < r → t.2.2.1 k ≠ g4) ∧ Blk w' g4 49 t.2.2.2.2.1.cells ∧ Ent true (16 * K + 17) w' t.2.2.2.2.1.val t.2.2.2.2.2.1 ∧ RbJ r c A t.1 t.2.1 t.2.2.2.2.2.1 t.2.2.2.2.2.2.1 t.2.2.2.2.2.2.2) (fun t => r - t.1)
  (0, A, gs, cp, x3, 1, id, id) ⟨rfl, trivial⟩ ⟨by omega, hE5, hO5, hg4, by assumption, hx5, hB5⟩ ?_
 clear hE5 hO5 hg4 hx5 hB5
 rintro ⟨k, F, gs, cp, x, last, ρ, γ⟩ ξ2 w6 ⟨⟨hkr, hkc⟩, hE6, hO6, hg4, hx6, hxe, hB⟩
 simp only at hkr hkc hO6 hg4 hx6 hxe hB
 show CW _ _ _ _ (over [(9, .int .i64 (k : Int))] _) w6
 repeat' (first|refine aj ?_)
 refine aB ?_
 repeat' (first|refine ai rfl ?_|refine aj ?_|refine ah rfl ?_)
 refine aw (p7 hO6.mx ⟨hr.1, by omega⟩ ⟨hc.1, by omega⟩ (show k ≤ 1000 by omega)) rfl ?_
 rintro v w7 ⟨p, q, t, rfl, ht1, ht2, hE7⟩
 refine ⟨fun _ _ => trivial, ?_⟩
 cases t
 ·repeat' (first|refine aO rfl rfl ?_|refine ai rfl ?_|refine aa ?_|refine aj ?_|refine ah rfl ?_|refine ae ?_|refine aC rfl ?_|refine aK ?_|refine aX ?_|refine b6 ?_)
  exact cR rfl (rt rfl) (rt rfl) ⟨k, rfl, hB.fin (ht2 rfl), hE6.trans hE7⟩
 ·obtain ⟨hkp, hpr, hkq, hqc, hnz⟩ := ht1 rfl
  clear ht1 ht2
  have hkn : k < r := by omega
  have hkm : k < c := by omega
  have hOk := hO6.ext hE7
  repeat' (first|refine aO rfl rfl ?_|refine ai rfl ?_|refine aa ?_|refine aj ?_|refine ah rfl ?_|refine ae ?_|refine ay rfl ?_|refine aF ?_)
  have hOp := hO6.ext (hE7.drew)
  refine bn (late := [13, 15]) (plan := [(0, none), (1, none), (2, none), (3, none), (4, none), (5, none), (6, none), (7, none), (8, none), (9, none), (10, none), (11, none), (12, none), (13, some false), (14, none), (15, some false)]) (fun w' => Ex w7 w') bC (by kernel_rfl) (Ex.refl w7).drew ?_
  repeat' (first|refine aD (j := k) (a := some ⟨g, 0, none⟩) rfl rfl ⟨_, _, rfl⟩ (by omega) ?_|refine aD (j := p) (a := some ⟨g, 0, none⟩) rfl rfl ⟨_, _, rfl⟩ (by omega) ?_|refine aZ (j := p) (a := some ⟨g, 0, none⟩) (n := r) (s := fun k => ⟨some ⟨gs k, 0, none⟩, c, cp k⟩) rfl (fun _ h => (hOk.ext h).top.sl) (by omega) rfl ?_|refine aZ (j := k) (a := some ⟨g, 0, none⟩) (n := r) (s := fun k => ⟨some ⟨gs k, 0, none⟩, c, cp k⟩) rfl (fun _ h => (hOk.ext h).top.sl) (by omega) rfl ?_|refine ai rfl ?_)
  refine cg (j := p) (u := ⟨some ⟨gs k, 0, none⟩, c, cp k⟩) rfl rfl hOp.top (by omega) (fun w8 hc8 hT8 => ⟨fun h => (nomatch h), ?_⟩)
  repeat' (first|refine aD (j := k) (a := some ⟨g, 0, none⟩) rfl rfl ⟨_, _, rfl⟩ (by omega) ?_)
  refine cg (j := k) (u := ⟨some ⟨gs p, 0, none⟩, c, cp p⟩) rfl rfl hT8 (by omega) (fun w9 hc9 hT9 => ⟨fun h => (nomatch h), ?_⟩)
  have hO9 := hOp.swap hpr hkn hc8 hc9 hT9
  have hx9 := ((hx6.ext hE7.drew).chg hc8 hgg4).chg hc9 hgg4
  have hxe9 := ((hxe.ext hE7.drew).gbN hOp.top (bW _ _) (bp hc8)).gbN hT8 (bW _ _) (bp hc9)
  have hE9 := ((hE6.trans hE7.drew).chg hc8 hO6.low).chg hc9 hO6.low
  have hB9 := hB.rows (B' := fun a => F (swp2 p k a)) hkp hpr (fun i j _ _ => by rw [t9])
  have hg9 : ∀ m, m < r → (fun a => gs (swp2 p k a)) m ≠ g4 := fun m hm => hg4 _ (fQ hpr hkn hm)
  have hnz9 : (fun a => F (swp2 p k a)) k q ≠ 0 := by
   show F (swp2 p k k) q ≠ 0
   rw [show swp2 p k k = p by unfold swp2; split; omega; rw [if_pos rfl]]; exact hnz
  clear hnz hOp hOk hO6 hx6 hxe hT8 hT9 hc8 hc9 hB
  revert hO9 hB9 hg9 hnz9
  generalize (fun a => F (swp2 p k a)) = F9
  generalize (fun a => gs (swp2 p k a)) = gs9
  generalize (fun a => cp (swp2 p k a)) = cp9
  intro hO9 hB9 hg9 hnz9
  clear hg4
  generalize (fun i => ρ (trn k p i)) = ρ9 at hB9
  repeat' (first|refine ai rfl ?_|refine aa ?_|refine aj ?_|refine ah rfl ?_|refine ae ?_|refine aY rfl ?_|refine aB ?_)
  refine aW (ι := Nat) [13, 55, 56, 57, 58, 59, 60, 61, 62, 63, 64, 65, 66, 67, 68, 69, 70, 71, 72, 73, 74, 75, 76, 77, 78, 79, 80, 81, 82, 83, 84] (fun t => [(55, .int .i64 (t : Int))])
   (fun t w' => t ≤ r ∧ Ex w w' ∧ MO true (16 * K + 17) w' w.heap.size g r c gs9 cp9 (fun a b => if a < t then cswp F9 q k a b else F9 a b) ∧ Blk w' g4 49 x.cells ∧ Ent true (16 * K + 17) w' x.val last) (fun t => r - t)
   0 ⟨rfl, trivial⟩ ⟨by omega, hE9, hO9.congr (fun a b _ _ => if_neg (by omega)), hx9, hxe9⟩ ?_
  clear hO9 hx9 hxe9 hE9
  rintro t ξ3 w10 ⟨ht, hE10, hO10, hx10, hxe10⟩
  show CW _ _ _ _ (over [(55, .int .i64 (t : Int))] _) w10
  rcases Nat.lt_or_ge t r with htn | htn
  ·obtain ⟨hh, hbr, hcr, hEr⟩ := hO10.get htn
   simp only [Nat.lt_irrefl, if_false] at hEr
   repeat' (first|refine bv rfl rfl (by omega) ?_|refine aa ?_|refine aj ?_|refine ah rfl ?_|refine ae ?_|refine aC rfl ?_|refine aF ?_)
   refine aB ?_
   repeat' (first|refine ai rfl ?_|refine aa ?_|refine aj ?_|refine ah rfl ?_|refine ae ?_)
   refine bn (late := [25, 27]) (plan := [(0, none), (1, none), (2, none), (3, none), (4, none), (5, none), (6, none), (7, none), (8, none), (9, none), (10, none), (11, none), (12, none), (13, none), (14, none), (15, none), (16, none), (17, none), (18, none), (19, none), (20, none), (21, none), (22, none), (23, none), (24, none), (25, some false), (26, none), (27, some false)]) (fun w' => Ex w10 w') bC (by kernel_rfl) (Ex.refl w10).drew ?_
   have hEd := (Ex.refl w10).drew
   repeat' (first|refine aD (j := t) (a := some ⟨g, 0, none⟩) rfl rfl ⟨_, _, rfl⟩ (by omega) ?_|refine aZ (j := t) (a := some ⟨g, 0, none⟩) (n := r) (s := fun k => ⟨some ⟨gs9 k, 0, none⟩, c, cp9 k⟩) rfl (fun _ h => (hO10.ext h).top.sl) (by omega) rfl ?_|refine bj (j := k) (a := some ⟨gs9 t, 0, none⟩) rfl rfl ⟨_, _, rfl⟩ (by omega) ?_|refine bD (j := k) (n := cp9 t) (a := some ⟨gs9 t, 0, none⟩) rfl (fun _ h => (hbr.ext h).sl) ⟨_, _, rfl⟩ (by omega) ?_|refine bj (j := q) (a := some ⟨gs9 t, 0, none⟩) rfl rfl ⟨_, _, rfl⟩ (by omega) ?_|refine bD (j := q) (n := cp9 t) (a := some ⟨gs9 t, 0, none⟩) rfl (fun _ h => (hbr.ext h).sl) ⟨_, _, rfl⟩ (by omega) ?_|refine ai rfl ?_)
   refine cF (j := q) (n := cp9 t) (u := hh k) rfl rfl (hbr.ext hEd) (by omega) (fun w11 hc11 hb11 => ⟨fun h => (nomatch h), ?_⟩)
   have hO11 := (hO10.ext hEd).put (j := q) htn (hbr.ext hEd) (fun j hj => by simp only [Nat.lt_irrefl, if_false]; exact (hEr j hj).ext hEd) ((hEr k hkm).ext hEd) hc11 hb11
   repeat' (first|refine bj (j := k) (a := some ⟨gs9 t, 0, none⟩) rfl rfl ⟨_, _, rfl⟩ (by omega) ?_)
   refine cF (j := k) (n := cp9 t) (u := hh q) rfl rfl hb11 (by omega) (fun w12 hc12 hb12 => ⟨fun h => (nomatch h), ?_⟩)
   have hO12 := hO11.put (j := k) (u := hh q) (z := F9 t q) htn hb11 (fun j hj => by
    unfold setM setF
    by_cases e : j = q
    ·subst e; rw [if_pos rfl, if_pos ⟨rfl, rfl⟩]; exact ((hEr k hkm).ext hEd).gbN (hbr.ext hEd) (bI _ _) (bp hc11)
    ·rw [if_neg e, if_neg (fun h => e h.2)]; simp only [Nat.lt_irrefl, if_false]; exact ((hEr j hj).ext hEd).gbN (hbr.ext hEd) (bI _ _) (bp hc11))
    (((hEr q hqc).ext hEd).gbN (hbr.ext hEd) (bI _ _) (bp hc11)) hc12 hb12
   repeat' (first|refine ai rfl ?_|refine aa ?_|refine ah rfl ?_|refine ae ?_|refine bi rfl rfl (by omega) (by omega) ?_|refine aJ ?_)
   have hgt := hg9 t htn
   have hlt := (hO10.row t htn).low
   exact ⟨⟨t + 1, ⟨htn, ((hE10.trans hEd).chg hc11 hlt).chg hc12 hlt, hO12.congr (fun a b _ _ => tT F9 t q k a b), ((hx10.ext hEd).chg hc11 (Ne.symm hgt)).chg hc12 (Ne.symm hgt), ((hxe10.ext hEd).gbN (hbr.ext hEd) (bI _ _) (bp hc11)).gbN hb11 (bI _ _) (bp hc12)⟩, by omega, rfl, trivial⟩, (by (repeat (first|exact aH _ _ _|refine ax rfl ?_|refine av rfl ?_|refine ak rfl ?_|refine ao rfl ?_)))⟩
  ·obtain rfl : r = t := by omega
   replace hO10 := hO10.congr (F' := cswp F9 q k) (fun a b ha _ => by rw [if_pos ha])
   have hB10 := hB9.cols (B' := cswp F9 q k) hkq hqc (fun i j _ _ => by
    show F9 i _ = F9 i _
    rw [show (if j = q then k else if j = k then q else j) = trn k q j from t9 q k j])
   have hnz10 : cswp F9 q k k k ≠ 0 := by
    show F9 k _ ≠ 0
    rw [show (if k = q then k else if k = k then q else k) = q by split; omega; rw [if_pos rfl]]; exact hnz9
   clear hnz9 hB9
   generalize (fun j => γ (trn k q j)) = γ9 at hB10
   generalize cswp F9 q k = F at *
   have hstep := hB10.step (B' := elm F last k r (k + 1)) hkn hkm hnz10 (fun i j h1 h2 h3 h4 => oH F last h1 h2 h3)
   have hlbs := RbJ.lb hstep hAlb hr.2
   repeat' (first|refine bu rfl rfl (by omega) ?_|refine bi rfl rfl (by omega) (by omega) ?_|refine ai rfl ?_|refine aa ?_|refine aj ?_|refine ah rfl ?_|refine ae ?_|refine ay rfl ?_|refine aB ?_|refine aS ?_|refine aL ?_|refine aT ?_)
   refine aW (ι := Nat) [14, 15, 87, 88, 89, 90, 91, 92, 93, 94, 95, 96, 97, 98, 99, 100, 101, 102, 103, 104, 105, 106, 107, 108, 109, 110, 111, 112, 113, 114, 115, 116, 117, 118, 119, 120, 121, 122, 123, 124, 125, 126, 127, 128, 129, 130, 131, 132, 133, 134, 135, 136, 137, 138, 139, 140, 141, 142] (fun i => [(14, .int .i64 (i : Int))])
    (fun i w' => k + 1 ≤ i ∧ i ≤ r ∧ Ex w w' ∧ MO true (16 * K + 17) w' w.heap.size g r c gs9 cp9 (elm F last k i (k + 1)) ∧ Blk w' g4 49 x.cells ∧ Ent true (16 * K + 17) w' x.val last) (fun i => r - i)
    (k + 1) ⟨by show Value.int .i64 ((k : Int) + 1) = _; norm_cast, trivial⟩ ⟨Nat.le_refl _, hkn, hE10, hO10.congr (fun a b _ _ => pi F last k a b), hx10, hxe10⟩ ?_
   clear hO10 hx10 hxe10 hE10
   rintro i ξ5 w11 ⟨hki, hin, hE11, hO11, hx11, hxe11⟩
   show CW _ _ _ _ (over [(14, .int .i64 (i : Int))] _) w11
   rcases Nat.lt_or_ge i r with hi | hi
   ·repeat' (first|refine bv rfl rfl (by omega) ?_|refine bi rfl rfl (by omega) (by omega) ?_|refine ai rfl ?_|refine aa ?_|refine aj ?_|refine ah rfl ?_|refine ae ?_|refine aY rfl ?_|refine aC rfl ?_|refine aB ?_|refine aF ?_)
    refine aW (ι := Nat) [15, 95, 96, 97, 98, 99, 100, 101, 102, 103, 104, 105, 106, 107, 108, 109, 110, 111, 112, 113, 114, 115, 116, 117, 118, 119, 120, 121, 122, 123, 124, 125, 126, 127, 128, 129, 130, 131, 132, 133, 134, 135, 136, 137, 138, 139, 140, 141, 142] (fun j => [(15, .int .i64 (j : Int))])
     (fun j w' => k + 1 ≤ j ∧ j ≤ c ∧ Ex w w' ∧ MO true (16 * K + 17) w' w.heap.size g r c gs9 cp9 (elm F last k i j) ∧ Blk w' g4 49 x.cells ∧ Ent true (16 * K + 17) w' x.val last) (fun j => c - j)
     (k + 1) ⟨by show Value.int .i64 ((k : Int) + 1) = _; norm_cast, trivial⟩ ⟨Nat.le_refl _, hkm, hE11, hO11, hx11, hxe11⟩ ?_
    clear hO11 hx11 hxe11 hE11
    rintro j ξ6 w12 ⟨hkj, hjn, hE12, hO12, hx12, hxe12⟩
    show CW _ _ _ _ (over [(15, .int .i64 (j : Int))] _) w12
    rcases Nat.lt_or_ge j c with hj | hj
    ·obtain ⟨hi', hbi, hci, hEi⟩ := hO12.get hi
     obtain ⟨hk', hbk, hck, hEk⟩ := hO12.get hkn
     have hki' : k < i := by omega
     have hkj' : k < j := by omega
     have e1 := lK F last (k := k) (i := i) (j := j) (a := i) (b := j) (by omega)
     have e2 := lK F last (k := k) (i := i) (j := j) (a := i) (b := k) (by omega)
     have e3 := lK F last (k := k) (i := i) (j := j) (a := k) (b := j) (by omega)
     have e4 := lK F last (k := k) (i := i) (j := j) (a := k) (b := k) (by omega)
     have n1 : Ent true (16 * K + 17) w12 (hi' j).val (F i j) := by rw [← e1]; exact hEi j hj
     have n2 : Ent true (16 * K + 17) w12 (hi' k).val (F i k) := by rw [← e2]; exact hEi k hkm
     have n3 : Ent true (16 * K + 17) w12 (hk' j).val (F k j) := by rw [← e3]; exact hEk j hj
     have n4 : Ent true (16 * K + 17) w12 (hk' k).val (F k k) := by rw [← e4]; exact hEk k hkm
     repeat' (first|refine aD (j := i) (a := some ⟨g, 0, none⟩) rfl rfl ⟨_, _, rfl⟩ (by omega) ?_|refine aZ (j := i) (a := some ⟨g, 0, none⟩) (n := r) (s := fun k => ⟨some ⟨gs9 k, 0, none⟩, c, cp9 k⟩) rfl hO12.top.sl (by omega) rfl ?_|refine bv rfl rfl (by omega) ?_|refine ai rfl ?_|refine aa ?_|refine aj ?_|refine ah rfl ?_|refine ae ?_|refine aY rfl ?_|refine aC rfl ?_|refine aF ?_)
     refine aB ?_
     skip
     have b1 := n4.lb.mul n1.lb
     have b2 := n2.lb.mul n3.lb
     have b3 := b1.sub b2
     refine bn (late := [39]) (plan := [(0, none), (1, none), (2, none), (3, none), (4, none), (5, none), (6, none), (7, none), (8, none), (9, none), (10, none), (11, none), (12, none), (13, none), (14, none), (15, none), (16, none), (17, none), (18, none), (20, none), (21, none), (22, none), (23, none), (24, none), (25, none), (26, none), (27, none), (28, none), (29, none), (30, none), (31, none), (32, none), (33, none), (36, none), (19, some true), (34, some true), (35, some true), (37, some true), (38, none), (39, some false)]) (fun w' => Ex w12 w') bC (by kernel_rfl) (Ex.refl w12).drew ?_
     have hEd := (Ex.refl w12).drew
     repeat' (first|refine aD (j := i) (a := some ⟨g, 0, none⟩) rfl rfl ⟨_, _, rfl⟩ (by omega) ?_|refine aD (j := k) (a := some ⟨g, 0, none⟩) rfl rfl ⟨_, _, rfl⟩ (by omega) ?_|refine aZ (j := i) (a := some ⟨g, 0, none⟩) (n := r) (s := fun k => ⟨some ⟨gs9 k, 0, none⟩, c, cp9 k⟩) rfl (fun _ h => (hO12.ext h).top.sl) (by omega) rfl ?_|refine aZ (j := k) (a := some ⟨g, 0, none⟩) (n := r) (s := fun k => ⟨some ⟨gs9 k, 0, none⟩, c, cp9 k⟩) rfl (fun _ h => (hO12.ext h).top.sl) (by omega) rfl ?_|refine bj (j := j) (a := some ⟨gs9 i, 0, none⟩) rfl rfl ⟨_, _, rfl⟩ (by omega) ?_|refine bj (j := k) (a := some ⟨gs9 i, 0, none⟩) rfl rfl ⟨_, _, rfl⟩ (by omega) ?_|refine bj (j := j) (a := some ⟨gs9 k, 0, none⟩) rfl rfl ⟨_, _, rfl⟩ (by omega) ?_|refine bj (j := k) (a := some ⟨gs9 k, 0, none⟩) rfl rfl ⟨_, _, rfl⟩ (by omega) ?_|refine bD (j := j) (n := cp9 i) (a := some ⟨gs9 i, 0, none⟩) rfl (fun _ h => (hbi.ext h).sl) ⟨_, _, rfl⟩ (by omega) ?_|refine bD (j := k) (n := cp9 i) (a := some ⟨gs9 i, 0, none⟩) rfl (fun _ h => (hbi.ext h).sl) ⟨_, _, rfl⟩ (by omega) ?_|refine bD (j := j) (n := cp9 k) (a := some ⟨gs9 k, 0, none⟩) rfl (fun _ h => (hbk.ext h).sl) ⟨_, _, rfl⟩ (by omega) ?_|refine bD (j := k) (n := cp9 k) (a := some ⟨gs9 k, 0, none⟩) rfl (fun _ h => (hbk.ext h).sl) ⟨_, _, rfl⟩ (by omega) ?_|refine aR (g := g4) rfl (fun _ h => hx12.ext h) rfl ?_|refine ai rfl ?_)
     refine aw (lG (n4.ext hEd).k (n1.ext hEd).k (by omega)) rfl ?_
     rintro v w13 ⟨hI13, hE13⟩
     refine ⟨fun _ h => h.trans hE13, ?_⟩
     have hEd13 := hEd.trans hE13
     skip
     refine aw (lG (n2.ext hEd13).k (n3.ext hEd13).k (by omega)) rfl ?_
     rintro v w14 ⟨hI14, hE14⟩
     refine ⟨fun _ h => h.trans hE14, ?_⟩
     skip
     refine aw (mM ((hI13.ext hE14).k b1) (hI14.k b2) (by omega) (by omega)) rfl ?_
     rintro v w15 ⟨hI15, hE15⟩
     refine ⟨fun _ h => h.trans hE15, ?_⟩
     have hEd15 := (hEd13.trans hE14).trans hE15
     skip
     refine aw (rP (hI15.k b3) (hxe12.ext hEd15).k (by omega) (by omega)) rfl ?_
     rintro v w16 ⟨hI16, hE16⟩
     refine ⟨fun _ h => h.trans hE16, ?_⟩
     obtain ⟨u, rfl⟩ := hI16.ih
     have hE1216 := hEd15.trans hE16
     have hbi16 := hbi.ext hE1216
     repeat' (first|refine bj (j := j) (a := some ⟨gs9 i, 0, none⟩) rfl rfl ⟨_, _, rfl⟩ (by omega) ?_)
     refine cF (j := j) (n := cp9 i) (u := u) rfl rfl hbi16 (by omega) (fun w17 hc17 hb17 => ⟨fun h => (nomatch h), ?_⟩)
     repeat' (first|refine ai rfl ?_|refine aa ?_|refine ah rfl ?_|refine ae ?_|refine bi rfl rfl (by omega) (by omega) ?_|refine aJ ?_)
     have hu : Ent true (16 * K + 17) w16 u.val ((F k k * F i j - F i k * F k j) / last) := Ent.of hI16 (by
      have := hlbs i j (by omega) hi (by omega) hj
      rwa [oH F last (by omega) hi (by omega)] at this)
     have hput := (hO12.ext hE1216).put (j := j) hi hbi16 (fun m hm => (hEi m hm).ext hE1216) hu hc17 hb17
     have hgi4 := hg9 i hi
     have hloi := (hO12.row i hi).low
     exact ⟨⟨j + 1, ⟨by omega, hj, (hE12.trans hE1216).chg hc17 hloi, hput.congr (fun a b _ _ => (rR F last hki' hkj' a b).symm), (hx12.ext hE1216).chg hc17 (Ne.symm hgi4), (hxe12.ext hE1216).gbN hbi16 (bI _ _) (bp hc17)⟩, by omega, rfl, trivial⟩, (by (repeat (first|exact aH _ _ _|refine ax rfl ?_|refine av rfl ?_|refine ak rfl ?_|refine ao rfl ?_)))⟩
    ·obtain rfl : c = j := by omega
     repeat' (first|refine aD (j := i) (a := some ⟨g, 0, none⟩) rfl rfl ⟨_, _, rfl⟩ (by omega) ?_|refine aZ (j := i) (a := some ⟨g, 0, none⟩) (n := r) (s := fun k => ⟨some ⟨gs9 k, 0, none⟩, c, cp9 k⟩) rfl hO12.top.sl (by omega) rfl ?_|refine bu rfl rfl (by omega) ?_|refine bi rfl rfl (by omega) (by omega) ?_|refine ai rfl ?_|refine aa ?_|refine aj ?_|refine ah rfl ?_|refine ae ?_|refine aY rfl ?_|refine ay rfl ?_|refine aS ?_|refine aL ?_|refine aT ?_|refine aJ ?_)
     exact ⟨⟨i + 1, ⟨by omega, hi, hE12, hO12.congr (fun a b _ hb => rQ F last (by omega) hb), hx12, hxe12⟩, by omega, rfl, trivial⟩, (by (repeat (first|exact aH _ _ _|refine ax rfl ?_|refine av rfl ?_|refine ak rfl ?_|refine ao rfl ?_)))⟩
   ·obtain rfl : r = i := by omega
    obtain ⟨hk', hbk, hck, hEk⟩ := hO11.get hkn
    have e4 := lK F last (k := k) (i := r) (j := k + 1) (a := k) (b := k) (by omega)
    have n4 : Ent true (16 * K + 17) w11 (hk' k).val (F k k) := by rw [← e4]; exact hEk k hkm
    repeat' (first|refine bu rfl rfl (by omega) ?_|refine aD (j := k) (a := some ⟨g, 0, none⟩) rfl rfl ⟨_, _, rfl⟩ (by omega) ?_|refine aZ (j := k) (a := some ⟨g, 0, none⟩) (n := r) (s := fun k => ⟨some ⟨gs9 k, 0, none⟩, c, cp9 k⟩) rfl hO11.top.sl (by omega) rfl ?_|refine bj (j := k) (a := some ⟨gs9 k, 0, none⟩) rfl rfl ⟨_, _, rfl⟩ (by omega) ?_|refine bD (j := k) (n := cp9 k) (a := some ⟨gs9 k, 0, none⟩) rfl hbk.sl ⟨_, _, rfl⟩ (by omega) ?_|refine ai rfl ?_|refine aa ?_|refine aj ?_|refine ah rfl ?_|refine ae ?_|refine aY rfl ?_|refine ay rfl ?_|refine aS ?_|refine aL ?_|refine aT ?_)
    refine au (n := 2) (vs := (hk' k).cells) rfl rfl rfl rfl hx11 rfl (fun w12 hc12 hb12 => ⟨fun _ _ => trivial, ?_⟩)
    repeat' (first|refine ai rfl ?_|refine aa ?_|refine ah rfl ?_|refine ae ?_|refine bi rfl rfl (by omega) (by omega) ?_|refine aJ ?_)
    exact ⟨⟨(k + 1, elm F last k r (k + 1), gs9, cp9, hk' k, F k k, ρ9, γ9), ⟨⟨hkn, hkm⟩, hE11.chg hc12 hlo4, hO11.gbN hx11 (aA _ _ _ _) (bp hc12) (Ne.symm hgg4) hg9, hg9, hb12, n4.gbN hx11 (aA _ _ _ _) (bp hc12), hstep⟩, by simp only; omega, rfl, trivial⟩, (by (repeat (first|exact aH _ _ _|refine ax rfl ?_|refine av rfl ?_|refine ak rfl ?_|refine ao rfl ?_)))⟩
end Go.Proofs.Ytiejljicpinheaa
namespace Go.LA
theorem HF.front {r c k : Nat} {H : Mat} {p : Nat → Nat} (h : HF r c H k p) : HF r k H k p := ⟨Nat.le_refl _, h.lt, h.mono, h.zero, h.pos, h.red, fun c' h1 h2 => by omega⟩
theorem HF.frontL {r c k : Nat} {H : Mat} {p : Nat → Nat} (h : HF r c H k p) (v : Vec) : InL r c H v ↔ InL r k H v :=
 ⟨fun ⟨x, hx⟩ => ⟨x, fun i hi => by rw [hx i hi, h.mvk x hi]⟩, fun ⟨x, hx⟩ => ⟨x, fun i hi => by rw [hx i hi, h.mvk x hi]⟩⟩
end Go.LA
namespace Go.Proofs.Ytiejljicpinheaa
open Go.W Go.LM Go.LA Go.PM
set_option maxHeartbeats 8000000 in
theorem vP {rows cols : Int} (h1 : 0 ≤ rows ∧ rows ≤ 255) (h2 : 0 ≤ cols ∧ cols ≤ 255) {L : List Int} {la : Option Addr} {w : World} (hL : Sl w la (int8L L)) (hI : I8 L) (lc : Nat) :
  CallsR Try.prog 4 #[.agg (gridL rows cols la L.length lc).toArray] w fun v w' => v = .bool true ∧ Ex w w' := by
 refine aG (args := [_]) Try.func4 rfl rfl ?_
 refine aj ?_
 refine ah rfl ?_
 refine bH (vs := gridL rows cols la L.length lc) rfl (fun g1 w1 hn1 => ⟨fun _ _ => trivial, ?_⟩)
 obtain ⟨r, c, A, hr, hc, hmat⟩ := od (most := 5) hL hI h1 h2 (by omega) lc
 repeat' (first|refine aR (cs := gridL rows cols la L.length lc) (g := g1) rfl hn1.blk rfl ?_|refine ai rfl ?_|refine aa ?_|refine aj ?_|refine ah rfl ?_|refine ae ?_)
 refine aw (hmat _ hn1.ex) rfl ?_
 rintro v w2 ⟨g2, gs2, cp2, rfl, hO2, hE2⟩
 refine ⟨fun _ _ => trivial, ?_⟩
 have hE02 := hn1.ex.trans hE2
 repeat' (first|refine ai rfl ?_|refine aa ?_|refine aj ?_|refine ah rfl ?_|refine ae ?_)
 refine aw (k5 hO2.mx (by omega) (by omega) (by omega)) rfl ?_
 rintro v w3 ⟨k, rfl, hk, hE3⟩
 refine ⟨fun _ _ => trivial, ?_⟩
 repeat' (first|refine aO rfl rfl ?_|refine ai rfl ?_|refine aa ?_|refine aj ?_|refine ah rfl ?_|refine ae ?_)
 refine aw (fS (hO2.ext hE3).mx (by omega) (by omega) (by omega) (by omega)) rfl ?_
 rintro v w4 ⟨H, U, k', p, u, rfl, hC, hF, hu0, hu1, hE4⟩
 refine ⟨fun _ _ => trivial, ?_⟩
 obtain rfl : k' = k := (hF.rk hC).unique hk
 have hkc := hF.kc
 have hE04 := (hE02.trans hE3).trans hE4
 by_cases hz : k' = 0
 ·subst hz
  obtain rfl := hu0 rfl
  repeat' (first|refine aO rfl rfl ?_|refine gQ rfl rfl rfl ?_|refine ai rfl ?_|refine aa ?_|refine aj ?_|refine ah rfl ?_|refine ae ?_|refine aY rfl ?_|refine bG rfl rfl ?_|refine aC rfl ?_|refine ay rfl ?_|refine aF ?_)
  refine aw (nf _) rfl ?_
  rintro v wz ⟨rfl, hEz⟩
  refine ⟨fun _ _ => trivial, ?_⟩
  repeat' (first|refine ai rfl ?_|refine aa ?_|refine ae ?_|refine aK ?_|refine aX ?_)
  exact bB rfl (rt rfl) ⟨rfl, hE04.trans hEz⟩
 obtain ⟨g4, gs4, cp4, rfl, hO4⟩ := hu1 (by omega)
 repeat' (first|refine aO rfl rfl ?_|refine fz rfl rfl (by omega) ?_|refine ai rfl ?_|refine aa ?_|refine aj ?_|refine ah rfl ?_|refine ae ?_|refine ay rfl ?_|refine aF ?_)
 refine aw (k5 hO4.mx (by omega) (by omega) (by omega)) rfl ?_
 rintro v w5 ⟨k2, rfl, hk2, hE5⟩
 refine ⟨fun _ _ => trivial, ?_⟩
 obtain rfl : k2 = k' := hk2.unique (hF.front.rk (sI r k' H))
 have hO5 := hO4.ext hE5
 repeat' (first|refine aO rfl rfl ?_|refine aD (j := 0) (a := some ⟨g4, 0, none⟩) rfl rfl ⟨_, _, rfl⟩ (show 0 < r by omega) ?_|refine aZ (j := 0) (a := some ⟨g4, 0, none⟩) (n := r) (s := fun m => ⟨some ⟨gs4 m, 0, none⟩, k2, cp4 m⟩) rfl hO5.top.sl (by omega) rfl ?_|refine qk rfl rfl ?_|refine ai rfl ?_|refine aa ?_|refine aj ?_|refine ah rfl ?_|refine ae ?_|refine aY rfl ?_|refine bG rfl rfl ?_)
 refine aw (py ((uR ((hO2.ext ((hE3.trans hE4).trans hE5)).up (by omega)))) (uR hO5) (by omega) (by omega)) rfl ?_
 rintro v w6 ⟨t6zz, rfl, ht6, hE6⟩
 refine ⟨fun _ _ => trivial, ?_⟩
 obtain rfl : t6zz = true := ht6.2 ⟨uS (by omega) (by omega), uS (by omega) (by omega), rfl, fun v => (hC.inL v).symm.trans (hF.frontL v)⟩
 repeat' (first|refine ai rfl ?_|refine bG rfl rfl ?_)
 refine aw (nf _) rfl ?_
 rintro v wz ⟨rfl, hEz⟩
 refine ⟨fun _ _ => trivial, ?_⟩
 repeat' (first|refine ai rfl ?_|refine aa ?_|refine ae ?_|refine aK ?_)
 exact bB rfl (rt rfl) ⟨rfl, (hE04.trans hE5).trans (hE6.trans hEz)⟩
end Go.Proofs.Ytiejljicpinheaa
