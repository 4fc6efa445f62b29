import Derived.Test.YtpfhfldehaiokaaGreatA30
set_option maxHeartbeats 8000000
namespace Go.LA
def SymK (n : Nat) (A : Mat) : Prop := ∀ i j, i < n → j < n → A i j = A j i
def scM (k : Int) (H : Mat) : Mat := fun i j => k * H i j
theorem dY (k : Int) (n : Nat) (H : Mat) : det n (scM k H) = k ^ n * det n H := nQ n k H
theorem oQ (k : Int) (m i j : Nat) (H : Mat) : bm (scM k H) m i j = k ^ (m + 1) * bm H m i j := by
 unfold bm
 rw [← dY]; rfl
theorem wV {n : Nat} {H : Mat} (hs : ∀ i j, i < n → j < n → H i j = H j i) (hp : ∀ k, k ≤ n → det k H ≠ 0) : ∀ m, m ≤ n → ∀ i j, i < n → j < n → bm H m i j = bm H m j i := by
 intro m
 induction m with
 | zero => intro _ i j hi hj; rw [dO, dO]; exact hs i j hi hj
 | succ m ih =>
  intro hm i j hi hj
  have h1 := d8 (hp m (by omega)) i j
  have h2 := d8 (hp m (by omega)) j i
  rw [ih (by omega) i j hi hj, ih (by omega) i m hi (by omega), ih (by omega) m j (by omega) hj] at h1
  have : bm H (m + 1) i j * det m H = bm H (m + 1) j i * det m H := by rw [h1, h2]; grind
  exact Int.eq_of_mul_eq_mul_right (hp m (by omega)) this
theorem jV {k : Int} (hk : 1 ≤ k) (m : Nat) : 0 < k ^ m := Int.pow_pos (by omega)
theorem aaA {k : Int} (hk : 1 ≤ k ∧ k ≤ 4) : k ^ 1 ≤ 4 ∧ k ^ 2 ≤ 16 ∧ k ^ 3 ≤ 64 := by
 obtain ⟨h1, h2⟩ := hk
 have : k = 1 ∨ k = 2 ∨ k = 3 ∨ k = 4 := by omega
 rcases this with rfl | rfl | rfl | rfl <;> decide
theorem Rd.dpos {n : Nat} {H : Mat} {k : Int} (h : Rd n H) (hk : 1 ≤ k ∧ k ≤ 4) {m : Nat} (hm : m ≤ n) : 0 < det m (scM k H) := by
 rw [dY]; exact Int.mul_pos (jV hk.1 m) (h.pos m hm)
theorem Rd.dlt {n : Nat} {H : Mat} {k : Int} (h : Rd n H) (hk : 1 ≤ k ∧ k ≤ 4) {m : Nat} (hm : m ≤ n) : det m (scM k H) < 65536 := by
 obtain ⟨k1, k2, k3⟩ := aaA hk
 have p1 := jV hk.1 1
 have p2 := jV hk.1 2
 have p3 := jV hk.1 3
 have hn := h.hn
 have key : ∀ {x y a b : Int}, 0 < x → x ≤ a → 0 < y → y ≤ b → x * y ≤ a * b := fun hx ha hy hb => Int.mul_le_mul ha hb (by omega) (by omega)
 rw [dY]
 have : m = 0 ∨ m = 1 ∨ m = 2 ∨ m = 3 := by omega
 rcases this with rfl | rfl | rfl | rfl
 ·rw [cA, Int.pow_zero]; decide
 ·have := key p1 k1 (h.pos 1 hm) h.b1; omega
 ·have := key p2 k2 (h.pos 2 hm) (h.b2 hm); omega
 ·have := key p3 k3 (h.pos 3 hm) (h.b3 hm); omega
theorem Rd.short {n : Nat} {H : Mat} {k : Int} (h : Rd n H) (hk : 1 ≤ k ∧ k ≤ 4) {t i : Nat} (ht : t < i) (hi : i < n) : 2 * bm (scM k H) t i t ≤ det (t + 1) (scM k H) ∧ -2 * bm (scM k H) t i t ≤ det (t + 1) (scM k H) := by
 have hs := (h.ok i hi).1 t ht
 unfold Sizd at hs
 have hp := h.pos (t + 1) (by omega)
 rw [dY, oQ]
 have p := jV hk.1 (t + 1)
 constructor
 ·have := Int.mul_le_mul_of_nonneg_left (show 2 * bm H t i t ≤ det (t + 1) H by omega) (Int.le_of_lt p)
  grind
 ·have := Int.mul_le_mul_of_nonneg_left (show -2 * bm H t i t ≤ det (t + 1) H by omega) (Int.le_of_lt p)
  grind
theorem Rd.lov {n : Nat} {H : Mat} {k : Int} (h : Rd n H) (hk : 1 ≤ k ∧ k ≤ 4) {t : Nat} (ht : t + 1 < n) :
  3 * det (t + 1) (scM k H) * det (t + 1) (scM k H) ≤ 4 * (det t (scM k H) * det (t + 2) (scM k H) + bm (scM k H) t (t + 1) t * bm (scM k H) t (t + 1) t) := by
 have hl := (h.ok (t + 1) ht).2 (by omega)
 unfold Lovz at hl
 rw [show t + 1 - 1 = t from rfl, show t + 1 + 1 = t + 2 from rfl] at hl
 rw [dY, dY, dY, oQ]
 have p := jV hk.1 (t + (t + 2))
 have := Int.mul_le_mul_of_nonneg_left hl (Int.le_of_lt p)
 have e1 : k ^ (t + (t + 2)) = k ^ t * k ^ (t + 2) := Int.pow_add ..
 have e2 : k ^ (t + 2) = k ^ t * (k * k) := by rw [Int.pow_add]; congr 1; show k ^ 2 = _; rw [Int.pow_succ, Int.pow_succ, Int.pow_zero]; grind
 have e3 : k ^ (t + 1) = k ^ t * k := Int.pow_succ ..
 rw [e1] at this
 rw [e2] at this ⊢
 rw [e3]
 generalize k ^ t = q at *
 grind
theorem Rd.entk {n : Nat} {H : Mat} {k : Int} (h : Rd n H) (hk : 1 ≤ k ∧ k ≤ 4) {i j : Nat} (hi : i < n) (hj : j < n) : (scM k H i j).natAbs ≤ 28000 := by
 have := h.ent i j hi hj
 have hk4 : k.natAbs ≤ 4 := by omega
 show (k * H i j).natAbs ≤ 28000
 rw [Int.natAbs_mul]
 exact Nat.mul_le_mul hk4 this
theorem Rd.symk {n : Nat} {H : Mat} {k : Int} (h : Rd n H) : SymK n (scM k H) := fun i j hi hj => by
 show k * H i j = k * H j i
 rw [h.sym i j hi hj]
end Go.LA
namespace Go.W
section
variable {P : Program} {S : World → Prop} {ops : List Oper} {K : Env → World → Prop} {rest : List (Oper × Option Bool)} {ρ : Env} {w : World} {b : Option Bool} {d : Nat} {T T' T'' : TypeId} {pos : String} {af : Array Edge}
theorem jx {x y : Operand} {m m' q : Int} (hx : ev ρ x = .int .i64 m) (hy : ev ρ y = .int .i64 m') (he : m = q * m') (h2 : 0 < m') (h3 : -9223372036854775808 ≤ q ∧ q ≤ 9223372036854775807)
  (h : RR P S ops K rest (upd ρ d (.int .i64 q)) w) : RR P S ops K ((⟨some d, .binOp .quo T' x y T'', T, pos, af, none⟩, b) :: rest) ρ w :=
 eG hx hy (by
  have h0 : m' ≠ 0 := by omega
  have e : m.tdiv m' = q := by rw [he]; exact Int.mul_tdiv_cancel _ h0
  simp [binOp, Op.intDiv, h0, e, cK (m := q) h3.1 h3.2]) h
end
end Go.W
namespace Go.LA
theorem Rd.bmk {n : Nat} {H : Mat} {k : Int} (h : Rd n H) (hk : 1 ≤ k ∧ k ≤ 4) {t i j : Nat} (ht : t < n) (hi : t ≤ i ∧ i < n) (hj : t ≤ j ∧ j < n) : (bm (scM k H) t i j).natAbs ≤ 1568000000 := by
 have hn := h.hn
 have : t = 0 ∨ t = 1 ∨ t = 2 := by omega
 rcases this with rfl | rfl | rfl
 ·rw [dO]; exact Nat.le_trans (h.entk hk hi.2 hj.2) (by decide)
 ·rw [uz]
  have a1 := cB (h.entk hk (show 0 < n by omega) (show 0 < n by omega)) (h.entk hk hi.2 hj.2)
  have a2 := cB (h.entk hk hi.2 (show 0 < n by omega)) (h.entk hk (show 0 < n by omega) hj.2)
  omega
 ·obtain rfl : i = 2 := by omega
  obtain rfl : j = 2 := by omega
  rw [d9]
  have h1 := h.dpos hk (show 2 + 1 ≤ n by omega)
  have h2 := h.dlt hk (show 2 + 1 ≤ n by omega)
  omega
end Go.LA
namespace Go.Proofs.YtpfhfldehaiokaaGreat
open Go.W Go.LM Go.LA
theorem fM {n cap g o : Nat} {k : Int} {w : World} {s : Nat → SD} {H : Mat} (hM : MI w (some ⟨g, o, none⟩) n n s (scM k H)) (hR : Rd n H) (hk : 1 ≤ k ∧ k ≤ 4) (hcap : n ≤ cap) :
  CallsR Tryz.prog 11 #[.slice (some ⟨g, o, none⟩) n cap] w fun v w' => v = .bool (decide (det n (scM k H) ≤ 10000)) ∧ Ex w w' := by
 obtain ⟨A, hA⟩ : ∃ A, scM k H = A := ⟨_, rfl⟩
 have hn := hR.hn
 have hsym : SymM n A := fun i j hj hi => by rw [← hA]; exact hR.symk i j hi (by omega)
 have hbnd : ∀ i j, i < n → j < n → -262144 < A i j ∧ A i j < 262144 := fun i j hi hj => by have := hR.entk hk hi hj; rw [hA] at this; omega
 have hdp : ∀ m, m ≤ n → 0 < det m A := fun m hm => by rw [← hA]; exact hR.dpos hk hm
 have hdl : ∀ m, m ≤ n → det m A < 65536 := fun m hm => by rw [← hA]; exact hR.dlt hk hm
 have hsh : ∀ t i, t < i → i < n → 2 * bm A t i t ≤ det (t + 1) A ∧ -2 * bm A t i t ≤ det (t + 1) A := fun t i ht hi => by rw [← hA]; exact hR.short hk ht hi
 have hlv : ∀ t, t + 1 < n → 3 * det (t + 1) A * det (t + 1) A ≤ 4 * (det t A * det (t + 2) A + bm A t (t + 1) t * bm A t (t + 1) t) := fun t ht => by rw [← hA]; exact hR.lov hk ht
 have hbm : ∀ t i j, t < n → t ≤ i ∧ i < n → t ≤ j ∧ j < n → (bm A t i j).natAbs ≤ 1568000000 := fun t i j ht hi hj => by rw [← hA]; exact hR.bmk hk ht hi hj
 rw [hA] at hM
 rw [hA]
 clear hA
 refine aE (args := [_]) Tryz.func11 rfl rfl ?_
 repeat' (first|refine aj rfl ?_|refine aa ?_|refine ak ?_|refine ai rfl ?_|refine ah ?_)
 refine au (oP hM (by omega) hsym hbnd) rfl ?_
 rintro v w1 ⟨rfl, hE1⟩
 refine tvv ?_
 repeat' (first|refine aj rfl ?_|refine aa ?_|refine ak ?_|refine ai rfl ?_|refine ah ?_|refine ao rfl ?_|refine ay ?_|refine aC ?_)
 refine aW (ι := Nat × (Nat × Nat × Nat) × (Nat → SD)) [2, 3, 4, 5, 6, 7, 8, 9, 10, 15, 16, 17, 18, 19, 20, 21, 22, 23, 24, 25, 26, 27, 28, 29, 30, 31, 32, 33, 34, 35, 36, 37, 38, 39, 40, 41, 42, 43, 44, 45, 46, 47, 48, 49, 50, 51, 52, 53, 54, 55, 56, 57, 58, 59, 60, 61, 62, 63, 64, 65, 66, 67, 68, 69, 70, 71, 72, 73, 74, 75, 76, 77, 78, 79, 80, 81, 82, 83, 84, 85, 86, 87, 88, 89, 90, 91, 92, 93, 94, 95, 96, 97, 98, 99, 100, 101, 102, 103] (fun t => [(3, .slice (some ⟨t.2.1.1, t.2.1.2.1, none⟩) (n - t.1) t.2.1.2.2), (4, .int .i64 (det t.1 A))])
  (fun t w' => t.1 < n ∧ Ex w w' ∧ n - t.1 ≤ t.2.1.2.2 ∧ MI w' (some ⟨t.2.1.1, t.2.1.2.1, none⟩) (n - t.1) (n - t.1) t.2.2 (fun i j => bm A t.1 (t.1 + i) (t.1 + j))) (fun t => n - t.1)
  (0, (g, o, cap), s) ⟨rfl, rfl, trivial⟩ ⟨by simp only; omega, hE1, by simp only; omega, by simp only [Nat.sub_zero, Nat.zero_add, dO]; exact hM.ext hE1⟩ ?_
 rintro ⟨t, ⟨gt, ot, ct⟩, st⟩ ξ w2 ⟨ht, hE2, hc2, hM2⟩
 simp only at ht hc2 hM2
 show CW _ _ _ _ (over [(3, .slice (some ⟨gt, ot, none⟩) (n - t) ct), (4, .int .i64 (det t A))] _) w2
 have hdt := hdp (t + 1) (by omega)
 have hdt2 := hdl (t + 1) (by omega)
 obtain ⟨p, d, e1, hpp, hS⟩ := hM2.get (show 0 < n - t by omega) (by omega)
 have e00 : bm A t (t + 0) (t + 0) = det (t + 1) A := d9 A t
 by_cases hlast : t + 1 = n
 ·subst hlast
  have em : t + 1 - t = 1 := by omega
  have hg0 : (0 : Int) < bm A t (t + 0) (t + 0) := by rw [e00]; exact hdt
  repeat' (first|refine cW rfl rfl (by omega) ?_|refine az (j := 0) (a := some ⟨gt, ot, none⟩) rfl rfl ⟨_, _, rfl⟩ (by omega) ?_|refine aZ (j := 0) (a := some ⟨gt, ot, none⟩) (n := t + 1 - t) (s := st) rfl hM2.top (by omega) e1 ?_|refine az (j := 0) (a := p) rfl rfl hpp (by omega) ?_|refine bu (j := 0) (n := t + 1 - t) (a := p) rfl hS (by omega) ?_|refine jp rfl rfl hg0 ?_|refine tB rfl rfl ?_|refine aj rfl ?_|refine aa ?_|refine ak ?_|refine ai rfl ?_|refine ah ?_|refine bc rfl ?_|refine bJ rfl rfl ?_|refine ao rfl ?_|refine aT ?_|refine aO ?_|refine aU ?_|refine aK ?_)
  exact bo rfl (rt rfl) ⟨by show Value.bool (decide (bm A t (t + 0) (t + 0) ≤ 10000)) = _; rw [e00], hE2⟩
 ·obtain ⟨m, hm⟩ : ∃ m, n - t = m + 1 := ⟨n - t - 1, by omega⟩
  repeat' (first|refine jp rfl rfl (by omega) ?_|refine az (j := 0) (a := some ⟨gt, ot, none⟩) rfl rfl ⟨_, _, rfl⟩ (by omega) ?_|refine aZ (j := 0) (a := some ⟨gt, ot, none⟩) (n := n - t) (s := st) rfl hM2.top (by omega) e1 ?_|refine az (j := 0) (a := p) rfl rfl hpp (by omega) ?_|refine bu (j := 0) (n := n - t) (a := p) rfl hS (by omega) ?_|refine aj rfl ?_|refine aa ?_|refine ak ?_|refine ai rfl ?_|refine ah ?_|refine bc rfl ?_|refine aA rfl ?_|refine ay ?_|refine aC ?_)
  refine au (kn hM2 (by omega) hc2 (by simp only [e00]; exact ⟨hdt, hdt2⟩) (fun i hi h0 => by
   have := hsh t (t + i) (by omega) (by omega)
   simp only [Nat.add_zero, d9]; exact this)) rfl ?_
  rintro v w3 ⟨rfl, hE3⟩
  refine tvv ?_
  have hM3 := hM2.ext hE3
  have hE03 := hE2.trans hE3
  have em : Value.int .i64 (((n - t : Nat) : Int) - 1) = Value.int .i64 (m : Int) := by congr 1; omega
  repeat' (first|refine eC (n := m) em em (by omega) (by omega) (fun g5 w5 hn5 => tvv ?_)|refine aj rfl ?_|refine aa ?_|refine ak ?_|refine ai rfl ?_|refine ah ?_|refine bc rfl ?_|refine bK rfl rfl (by omega) (by omega) ?_|refine ao rfl ?_|refine ay ?_|refine aC ?_)
  have l5 := hn5.lo
  have lb5 := hn5.hi
  have hE05 := hE03.trans hn5.ex
  refine aW (ι := Nat × (Nat → Nat)) [7, 8, 9, 32, 33, 34, 35, 36, 37, 38, 39, 40, 41, 42, 43, 44, 45, 46, 47, 48, 49, 50, 51, 52, 53, 54, 55, 56, 57, 58, 59, 60, 61, 62, 63, 64, 65, 66, 67, 68, 69, 70, 71, 72, 73, 74, 75, 76, 77, 78, 79] (fun x => [(32, .int .i64 (x.1 : Int))])
   (fun x w' => (x.1 ≤ m ∧ Ex w3 w' ∧ w5.heap.size ≤ w'.heap.size) ∧ Blk w' g5 58 (topC m fun k => if k < x.1 then ⟨some ⟨x.2 k, 0, none⟩, m, m⟩ else sd0) ∧
    (∀ k, k < x.1 → w5.heap.size ≤ x.2 k ∧ Blk w' (x.2 k) 2 (intC m (fun j => bm A (t + 1) (t + 1 + k) (t + 1 + j))))) (fun x => m - x.1)
   (0, fun _ => 0) ⟨rfl, trivial⟩ ⟨⟨by simp only; omega, hn5.ex, Nat.le_refl _⟩, hn5.blk, fun k h => by simp only at h; omega⟩ ?_
  rintro ⟨i, gs⟩ ξ1 w6 ⟨⟨hi, hE6, hs6⟩, hG6, hrow⟩
  simp only at hi hG6 hrow
  show CW _ _ _ _ (over [(32, .int .i64 (i : Int))] _) w6
  have hgl := hG6.lt
  have hM6 := hM3.ext hE6
  rcases Nat.lt_or_ge i m with him | him
  ·obtain ⟨p', d', e1', hpp', hS'⟩ := hM6.get (show i + 1 < n - t by omega) (by omega)
   repeat' (first|refine bq rfl rfl (by omega) ?_|refine az (j := i + 1) (a := some ⟨gt, ot, none⟩) rfl rfl ⟨_, _, rfl⟩ (by omega) ?_|refine aZ (j := i + 1) (a := some ⟨gt, ot, none⟩) (n := n - t) (s := st) rfl hM6.top (by omega) e1' ?_|refine eF (n := m) rfl rfl (by omega) (by omega) (fun gr w7 hn7 => tvv ?_)|refine aj rfl ?_|refine aa ?_|refine ak ?_|refine ai rfl ?_|refine ah ?_|refine bc rfl ?_|refine aV rfl rfl (by omega) (by omega) ?_|refine aA rfl ?_|refine ay ?_|refine aC ?_)
   have l7 := hn7.lo
   have s7 := hn7.ex.size
   have hG7 := hG6.ext hn7.ex
   repeat' (first|refine az (j := i) (a := some ⟨g5, 0, none⟩) rfl rfl ⟨_, _, rfl⟩ (by omega) ?_|refine di (j := i) (u := ⟨some ⟨gr, 0, none⟩, m, m⟩) rfl rfl hG7 him (fun w8 hc8 hG8 => tvv ?_)|refine aj rfl ?_|refine aa ?_|refine ak ?_|refine ai rfl ?_|refine ah ?_|refine bc rfl ?_|refine ay ?_)
   have s3 := hn5.ex.size
   have hR8 := hn7.blk.chg hc8 (by omega)
   have hE8 : Ex w3 w8 := (hE6.trans hn7.ex).chg hc8 l5
   have s8 := hc8.size
   have hrow8 : ∀ k, k < i → Blk w8 (gs k) 2 (intC m (fun j => bm A (t + 1) (t + 1 + k) (t + 1 + j))) := fun k hk => ((hrow k hk).2.ext hn7.ex).chg hc8 (by have := (hrow k hk).1; omega)
   have hold : ∀ k, k < i → gs k < w6.heap.size := fun k hk => (hrow k hk).2.lt
   have hi0 : setF (fun k => if k < i then (⟨some ⟨gs k, 0, none⟩, m, m⟩ : SD) else sd0) i ⟨some ⟨gr, 0, none⟩, m, m⟩ i = ⟨some ⟨gr, 0, none⟩, m, m⟩ := aI _ _ _
   skip
   refine aW (ι := Nat × (Nat → Int)) [9, 48, 49, 50, 51, 52, 53, 54, 55, 56, 57, 58, 59, 60, 61, 62, 63, 64, 65, 66, 67, 68, 69, 70, 71, 72, 73, 74, 75, 76, 77, 78] (fun x => [(48, .int .i64 (x.1 : Int))])
    (fun x w' => (x.1 ≤ m ∧ Ex w3 w' ∧ w8.heap.size ≤ w'.heap.size) ∧
     Blk w' g5 58 (topC m (setF (fun k => if k < i then ⟨some ⟨gs k, 0, none⟩, m, m⟩ else sd0) i ⟨some ⟨gr, 0, none⟩, m, m⟩)) ∧ (∀ k, k < i → Blk w' (gs k) 2 (intC m (fun j => bm A (t + 1) (t + 1 + k) (t + 1 + j)))) ∧ Blk w' gr 2 (intC m x.2) ∧ ∀ l, l < x.1 → x.2 l = bm A (t + 1) (t + 1 + i) (t + 1 + l)) (fun x => m - x.1)
    (0, fun _ => 0) ⟨rfl, trivial⟩ ⟨⟨by simp only; omega, hE8, Nat.le_refl _⟩, hG8, hrow8, hR8, fun l h => by simp only at h; omega⟩ ?_
   rintro ⟨j, f⟩ ξ2 w9 ⟨⟨hj, hE9, hs9⟩, hG9, hrow9, hR9, hf9⟩
   simp only at hj hR9 hf9
   show CW _ _ _ _ (over [(48, .int .i64 (j : Int))] _) w9
   have hM9 := hM3.ext hE9
   rcases Nat.lt_or_ge j m with hjm | hjm
   ·have hx1 : (bm A t (t + (i + 1)) (t + (j + 1))).natAbs ≤ 1568000000 := hbm t _ _ (by omega) (by omega) (by omega)
    have hx2 : (bm A t (t + 0) (t + (j + 1))).natAbs ≤ 1568000000 := hbm t _ _ (by omega) (by omega) (by omega)
    have hx3 := hsh t (t + (i + 1)) (by omega) (by omega)
    have hx4 : (bm A t (t + (i + 1)) (t + 0)).natAbs ≤ 65536 := by show (bm A t (t + (i + 1)) t).natAbs ≤ 65536; omega
    have hx5 : (bm A t (t + 0) (t + 0)).natAbs ≤ 65536 := by rw [e00]; omega
    have y1 := cB hx5 hx1
    have y2 := cB hx4 hx2
    have hq : bm A t (t + 0) (t + 0) * bm A t (t + (i + 1)) (t + (j + 1)) - bm A t (t + (i + 1)) (t + 0) * bm A t (t + 0) (t + (j + 1)) = bm A (t + 1) (t + 1 + i) (t + 1 + j) * det t A := by
     have := d8 (show det t A ≠ 0 by have := hdp t (by omega); omega) (t + 1 + i) (t + 1 + j)
     rw [this, show t + (i + 1) = t + 1 + i by omega, show t + (j + 1) = t + 1 + j by omega, Nat.add_zero]
    have hqb := hbm (t + 1) (t + 1 + i) (t + 1 + j) (by omega) (by omega) (by omega)
    have hd0 := hdp t (by omega)
    have hS9 : Sl w9 p' (intC (n - t) (fun j => bm A t (t + (i + 1)) (t + j))) := by have := (hM9.row (i + 1) (by omega)).2; rw [e1'] at this; exact this
    have hS0 : Sl w9 p (intC (n - t) (fun j => bm A t (t + 0) (t + j))) := by have := (hM9.row 0 (by omega)).2; rw [e1] at this; exact this
    repeat' (first|refine bq rfl rfl (by omega) ?_|refine aa ?_|refine ak ?_|refine ai rfl ?_|refine ah ?_|refine aA rfl ?_|refine aC ?_)
    refine ay ?_
    repeat' (first|refine aj rfl ?_|refine aa ?_|refine ak ?_|refine ai rfl ?_|refine ah ?_)
    refine bn (late := [27]) (plan := [(0, none), (1, none), (2, none), (3, none), (4, none), (5, none), (6, none), (7, none), (8, none), (9, none), (10, none), (11, none), (12, none), (13, none), (14, none), (15, none), (16, none), (17, none), (18, none), (19, none), (20, none), (21, none), (22, none), (23, none), (24, none), (25, none), (26, none), (27, some false)]) (fun w' => Ex w9 w') bD (by kernel_rfl) (Ex.refl w9).drew ?_
    have hEd := (Ex.refl w9).drew
    repeat' (first|refine az (j := i) (a := some ⟨g5, 0, none⟩) rfl rfl ⟨_, _, rfl⟩ (by omega) ?_|refine aZ (j := i) (a := some ⟨g5, 0, none⟩) rfl (fun _ h => (hG9.ext h).sl) him hi0 ?_|refine az (j := j + 1) (a := p') rfl rfl hpp' (by omega) ?_|refine bu (j := j + 1) (n := n - t) (a := p') rfl (fun _ h => hS9.ext h) (by omega) ?_|refine az (j := 0) (a := p') rfl rfl hpp' (by omega) ?_|refine bu (j := 0) (n := n - t) (a := p') rfl (fun _ h => hS9.ext h) (by omega) ?_|refine az (j := 0) (a := some ⟨gt, ot, none⟩) rfl rfl ⟨_, _, rfl⟩ (by omega) ?_|refine aZ (j := 0) (a := some ⟨gt, ot, none⟩) (n := n - t) (s := st) rfl (fun _ h => (hM9.ext h).top) (by omega) e1 ?_|refine az (j := j + 1) (a := p) rfl rfl hpp (by omega) ?_|refine bu (j := j + 1) (n := n - t) (a := p) rfl (fun _ h => hS0.ext h) (by omega) ?_|refine cP rfl rfl (by omega) (by omega) ?_|refine bK rfl rfl (by omega) (by omega) ?_|refine jx rfl rfl hq hd0 (by omega) ?_|refine az (j := j) (a := some ⟨gr, 0, none⟩) rfl rfl ⟨_, _, rfl⟩ (by omega) ?_|refine aj rfl ?_|refine aV rfl rfl (by omega) (by omega) ?_)
    refine cT (j := j) (n := m) (f := f) (u := bm A (t + 1) (t + 1 + i) (t + 1 + j)) rfl rfl (hR9.ext hEd) hjm (fun w10 hc10 hb10 => ⟨fun h => (nomatch h), ?_⟩)
    repeat' (first|refine aj rfl ?_|refine aa ?_|refine ai rfl ?_|refine ah ?_|refine aV rfl rfl (by omega) (by omega) ?_|refine aJ ?_)
    have s10 := hc10.size
    have sd9 := hEd.size
    refine ⟨⟨(j + 1, setF f j (bm A (t + 1) (t + 1 + i) (t + 1 + j))), ⟨⟨hjm, (hE9.trans hEd).chg hc10 (by omega), by omega⟩, (hG9.ext hEd).chg hc10 (by omega), fun k hk => ((hrow9 k hk).ext hEd).chg hc10 (by have := hold k hk; omega), hb10, fun l hl => ?_⟩, by simp only; omega, rfl, trivial⟩, (by (repeat (first|exact aG _ _ _|refine aB rfl ?_|refine ax rfl ?_|refine av rfl ?_|refine aw rfl ?_)))⟩
    simp only at hl ⊢
    by_cases e : l = j
    ·subst e; exact aI _ _ _
    ·rw [aN _ _ e]; exact hf9 l (by omega)
   ·obtain rfl : m = j := by omega
    repeat' (first|refine bp rfl rfl (by omega) ?_|refine aj rfl ?_|refine aa ?_|refine ak ?_|refine ai rfl ?_|refine ah ?_|refine aV rfl rfl (by omega) (by omega) ?_|refine ao rfl ?_|refine aT ?_|refine aO ?_|refine aU ?_|refine aJ ?_)
    refine ⟨⟨(i + 1, setF gs i gr), ⟨⟨him, hE9, by omega⟩, ?_, fun k hk => ?_⟩, by simp only; omega, rfl, trivial⟩, (by (repeat (first|exact aG _ _ _|refine aB rfl ?_|refine ax rfl ?_|refine av rfl ?_|refine aw rfl ?_)))⟩
    ·simp only
     rw [bF (s' := setF (fun k => if k < i then (⟨some ⟨gs k, 0, none⟩, m, m⟩ : SD) else sd0) i ⟨some ⟨gr, 0, none⟩, m, m⟩) (fun k hk => ?_)]
     ·exact hG9
     ·by_cases e : k = i
      ·subst e; rw [if_pos (by omega), aI, aI]
      ·rw [aN _ _ e, aN _ _ e]
       by_cases h : k < i
       ·rw [if_pos h, if_pos (by omega)]
       ·rw [if_neg h, if_neg (by omega)]
    ·simp only at hk ⊢
     by_cases e : k = i
     ·subst e; rw [aI]; exact ⟨by omega, by rw [← cJ hf9]; exact hR9⟩
     ·rw [aN _ _ e]; exact ⟨(hrow k (by omega)).1, hrow9 k (by omega)⟩
  ·obtain rfl : m = i := by omega
   obtain ⟨p', d', e1', hpp', hS'⟩ := hM6.get (show 1 < n - t by omega) (by omega)
   have hr0 := (hrow 0 (by omega)).2
   have en : bm A (t + 1) (t + 1 + 0) (t + 1 + 0) = det (t + 2) A := d9 A (t + 1)
   have hl := hlv t (by omega)
   have h2p := hdp (t + 2) (by omega)
   have h2l := hdl (t + 2) (by omega)
   have h0p := hdp t (by omega)
   have h0l := hdl t (by omega)
   have hx3 := hsh t (t + 1) (by omega) (by omega)
   have y1 := cB (show (det t A).natAbs ≤ 65536 by omega) (show (bm A (t + 1) (t + 1 + 0) (t + 1 + 0)).natAbs ≤ 65536 by rw [en]; omega)
   have y2 := cB (show (bm A t (t + 1) (t + 0)).natAbs ≤ 65536 by show (bm A t (t + 1) t).natAbs ≤ 65536; omega) (show (bm A t (t + 1) (t + 0)).natAbs ≤ 65536 by show (bm A t (t + 1) t).natAbs ≤ 65536; omega)
   have y3 := cB (show (3 * bm A t (t + 0) (t + 0)).natAbs ≤ 196608 by rw [e00]; omega) (show (bm A t (t + 0) (t + 0)).natAbs ≤ 65536 by rw [e00]; omega)
   have hx5 : (bm A t (t + 0) (t + 0)).natAbs ≤ 65536 := by rw [e00]; omega
   have hlov : 3 * bm A t (t + 0) (t + 0) * bm A t (t + 0) (t + 0) ≤ 4 * (det t A * bm A (t + 1) (t + 1 + 0) (t + 1 + 0) + bm A t (t + 1) (t + 0) * bm A t (t + 1) (t + 0)) := by rw [e00, en]; exact hl
   repeat' (first|refine bp rfl rfl (by omega) ?_|refine az (j := 1) (a := some ⟨gt, ot, none⟩) rfl rfl ⟨_, _, rfl⟩ (by omega) ?_|refine aZ (j := 1) (a := some ⟨gt, ot, none⟩) (n := n - t) (s := st) rfl hM6.top (by omega) e1' ?_|refine az (j := 0) (a := p') rfl rfl hpp' (by omega) ?_|refine bu (j := 0) (n := n - t) (a := p') rfl hS' (by omega) ?_|refine az (j := 0) (a := some ⟨g5, 0, none⟩) rfl rfl ⟨_, _, rfl⟩ (by omega) ?_|refine aZ (j := 0) (a := some ⟨g5, 0, none⟩) rfl hG6.sl (by omega) (if_pos (by omega)) ?_|refine az (j := 0) (a := some ⟨gs 0, 0, none⟩) rfl rfl ⟨_, _, rfl⟩ (by omega) ?_|refine bu (j := 0) (n := m) (a := some ⟨gs 0, 0, none⟩) rfl hr0.sl (by omega) ?_|refine cP rfl rfl (by omega) (by omega) ?_|refine aV rfl rfl (by omega) (by omega) ?_|refine aj rfl ?_|refine aa ?_|refine ak ?_|refine ai rfl ?_|refine ah ?_|refine ao rfl ?_|refine aT ?_|refine aO ?_|refine aU ?_|refine aJ ?_|refine aC ?_)
   have hnm : n - (t + 1) = m := by omega
   refine ⟨⟨(t + 1, (g5, 0, m), fun k => if k < m then ⟨some ⟨gs k, 0, none⟩, m, m⟩ else sd0), ⟨by simp only; omega, hE03.trans hE6, by simp only; omega, ?_⟩, by simp only; omega, ?_⟩, (by (repeat (first|exact aG _ _ _|refine aB rfl ?_|refine ax rfl ?_|refine av rfl ?_|refine aw rfl ?_)))⟩
   ·simp only [hnm]
    exact ⟨hG6.sl, fun k hk => ⟨by rw [if_pos hk], by rw [if_pos hk]; exact (hrow k hk).2.sl⟩, fun a b ha hb => by have := hbm (t + 1) (t + 1 + a) (t + 1 + b) (by omega) (by omega) (by omega); omega⟩
   ·refine ⟨?_, ?_, trivial⟩
    ·simp only [hnm]; rfl
    ·show Value.int .i64 (bm A t (t + 0) (t + 0)) = _; rw [e00]
end Go.Proofs.YtpfhfldehaiokaaGreat
namespace Go.LA
def isq : Nat → Nat
 | 0 => 0
 | s + 1 => if (isq s + 1) * (isq s + 1) ≤ s + 1 then isq s + 1 else isq s
theorem iQ : ∀ s, isq s * isq s ≤ s
 | 0 => Nat.le_refl _
 | s + 1 => by
  have := iQ s
  unfold isq
  split
  ·assumption
  ·omega
theorem oR : ∀ s, s < (isq s + 1) * (isq s + 1)
 | 0 => by decide
 | s + 1 => by
  have := oR s
  unfold isq
  split
  ·have : (isq s + 1 + 1) * (isq s + 1 + 1) = (isq s + 1) * (isq s + 1) + 2 * (isq s + 1) + 1 := by grind
   omega
  ·omega
theorem qe {a b : Nat} (h : a * a ≤ b * b) : a ≤ b := Nat.le_of_not_lt fun hlt => by
 have := Nat.mul_lt_mul'' hlt hlt
 omega
theorem mG {s r : Nat} (h : r * r ≤ s) : r ≤ isq s := by
 have h2 := oR s
 have : r < isq s + 1 := Nat.lt_of_not_le fun hle => by
  have := Nat.mul_le_mul hle hle
  omega
 omega
theorem q4 {s r : Nat} (h1 : r * r ≤ s) (h2 : s < (r + 1) * (r + 1)) : isq s = r := by
 have h3 := mG h1
 have h4 := iQ s
 have : isq s < r + 1 := Nat.lt_of_not_le fun hle => by
  have := Nat.mul_le_mul hle hle
  omega
 omega
def rtI (s : Int) : Int := (isq s.toNat : Int)
theorem kp (s : Int) : 0 ≤ rtI s := Int.natCast_nonneg _
theorem lu {s u : Int} (hs : 0 ≤ s) : (u * u ≤ s) ↔ (-rtI s ≤ u ∧ u ≤ rtI s) := by
 have h1 := iQ s.toNat
 have h2 := oR s.toNat
 have e : ((s.toNat : Nat) : Int) = s := Int.toNat_of_nonneg hs
 have ha : u * u = ((u.natAbs * u.natAbs : Nat) : Int) := by rw [Int.natCast_mul, Int.natAbs_mul_self' u]
 constructor
 ·intro h
  have : u.natAbs * u.natAbs ≤ s.toNat := by omega
  have := mG this
  unfold rtI
  omega
 ·intro ⟨h3, h4⟩
  unfold rtI at h3 h4
  have : u.natAbs ≤ isq s.toNat := by omega
  have := Nat.mul_le_mul this this
  omega
def qn (n : Nat) (A : Mat) (k : Nat) (x : Vec) : Int := sm (n - k) fun i => sm (n - k) fun j => bm A k (k + i) (k + j) * (x (k + i) * x (k + j))
def rs (n : Nat) (A : Mat) (C : Int) (k : Nat) (x : Vec) : Int := det k A * C - qn n A k x
def shv (n : Nat) (A : Mat) (k : Nat) (x : Vec) : Int := sm (n - k - 1) fun j => bm A k k (k + 1 + j) * x (k + 1 + j)
theorem vb {n k : Nat} {A : Mat} {x y : Vec} (h : ∀ j, k ≤ j → j < n → x j = y j) : qn n A k x = qn n A k y :=
 aS fun i hi => aS fun j hj => by rw [h (k + i) (by omega) (by omega), h (k + j) (by omega) (by omega)]
theorem vd {n k : Nat} {A : Mat} {C : Int} {x y : Vec} (h : ∀ j, k ≤ j → j < n → x j = y j) : rs n A C k x = rs n A C k y := by unfold rs; rw [vb h]
theorem gP {n k : Nat} {A : Mat} {x y : Vec} (h : ∀ j, k < j → j < n → x j = y j) : shv n A k x = shv n A k y :=
 aS fun i hi => by rw [h (k + 1 + i) (by omega) (by omega)]
theorem zt (n : Nat) (f : Nat → Int) : sm n f * sm n f = sm n fun i => sm n fun j => f i * f j := by
 rw [← eM]
 exact aS fun i _ => by rw [bN]
structure Wk (n : Nat) (A : Mat) (C : Int) : Prop where
 hn : 1 ≤ n ∧ n ≤ 3
 sym : ∀ i j, i < n → j < n → A i j = A j i
 pos : ∀ k, k ≤ n → 0 < det k A
 lt : ∀ k, k ≤ n → det k A < 65536
 sh : ∀ t i, t < i → i < n → 2 * bm A t t i ≤ det (t + 1) A ∧ -2 * bm A t t i ≤ det (t + 1) A
 hC : 0 ≤ C ∧ C ≤ 20
 gr : ∀ k, k < n → det k A * C ≤ 20 * det (k + 1) A
section
variable {n : Nat} {A : Mat} {C : Int}
theorem Wk.bs (h : Wk n A C) {m i j : Nat} (hm : m ≤ n) (hi : i < n) (hj : j < n) : bm A m i j = bm A m j i := wV h.sym (fun k hk => by have := h.pos k hk; omega) m hm i j hi hj
theorem Wk.qstep (h : Wk n A C) {k : Nat} (hk : k < n) (x : Vec) :
  det (k + 1) A * qn n A k x = det k A * qn n A (k + 1) x + (det (k + 1) A * x k + shv n A k x) * (det (k + 1) A * x k + shv n A k x) := by
 obtain ⟨m, rfl⟩ : ∃ m, n = k + m + 1 := ⟨n - k - 1, by omega⟩
 have e1 : k + m + 1 - k = m + 1 := by omega
 have e2 : k + m + 1 - (k + 1) = m := by omega
 have e3 : k + m + 1 - k - 1 = m := by omega
 have hd : det k A ≠ 0 := by have := h.pos k (by omega); omega
 have hu : det (k + 1) A * x k + shv (k + m + 1) A k x = sm (m + 1) fun j => bm A k k (k + j) * x (k + j) := by
  unfold shv
  rw [e3, iF]
  simp only [Nat.add_zero]
  rw [d9]
  congr 1
  exact aS fun j _ => by rw [show k + (j + 1) = k + 1 + j by omega]
 rw [hu, zt]
 have hz : ∀ i, i < m + 1 → bm A (k + 1) (k + i) k = 0 := fun i hi => by
  have h1 := d8 hd (k + i) k
  have : bm A (k + 1) (k + i) k * det k A = 0 := by rw [h1]; grind
  exact (Int.mul_eq_zero.1 this).resolve_right hd
 have hz' : ∀ j, j < m + 1 → bm A (k + 1) k (k + j) = 0 := fun j hj => by
  have h1 := d8 hd k (k + j)
  have : bm A (k + 1) k (k + j) * det k A = 0 := by rw [h1]; grind
  exact (Int.mul_eq_zero.1 this).resolve_right hd
 have hq : qn (k + m + 1) A (k + 1) x = sm (m + 1) fun i => sm (m + 1) fun j => bm A (k + 1) (k + i) (k + j) * (x (k + i) * x (k + j)) := by
  unfold qn
  rw [e2]
  symm
  rw [iF, fe (fun j hj => by simp only [Nat.add_zero]; rw [hz' j hj, Int.zero_mul]), Int.zero_add]
  refine aS fun i hi => ?_
  rw [iF]
  simp only [Nat.add_zero]
  rw [hz (i + 1) (by omega), Int.zero_mul, Int.zero_add]
  exact aS fun j _ => by rw [show k + 1 + i = k + (i + 1) by omega, show k + 1 + j = k + (j + 1) by omega]
 rw [hq]
 unfold qn
 rw [e1, ← bN, ← bN, ← dU]
 refine aS fun i hi => ?_
 rw [← bN, ← bN, ← dU]
 refine aS fun j hj => ?_
 have h1 := d8 hd (k + i) (k + j)
 rw [d9, h.bs (i := k + i) (j := k) (m := k) (by omega) (by omega) (by omega)] at h1
 grind
theorem Wk.qnn (h : Wk n A C) (x : Vec) : ∀ m k, k + m = n → 0 ≤ qn n A k x
 | 0, k, e => by
  have : n - k = 0 := by omega
  unfold qn
  rw [this, dm]; exact Int.le_refl _
 | m + 1, k, e => by
  have h1 := h.qnn x m (k + 1) (by omega)
  have h2 := h.qstep (show k < n by omega) x
  have h3 := Int.mul_nonneg (Int.le_of_lt (h.pos k (by omega))) h1
  have h4 := sq_nn (det (k + 1) A * x k + shv n A k x)
  have h5 := h.pos (k + 1) (by omega)
  refine Int.not_lt.1 fun hlt => ?_
  have := Int.mul_neg_of_pos_of_neg h5 hlt
  omega
theorem Wk.rle (h : Wk n A C) (x : Vec) {k : Nat} (hk : k ≤ n) : rs n A C k x ≤ det k A * C := by
 have := h.qnn x (n - k) k (by omega)
 unfold rs; omega
def sqv (n : Nat) (A : Mat) (C : Int) (k : Nat) (x : Vec) : Int := det k A * rs n A C (k + 1) x
theorem Wk.rstep (h : Wk n A C) {k : Nat} (hk : k < n) (x : Vec) :
  rs n A C k x * det (k + 1) A = sqv n A C k x - (det (k + 1) A * x k + shv n A k x) * (det (k + 1) A * x k + shv n A k x) := by
 have := h.qstep hk x
 unfold sqv rs
 grind
theorem Wk.sq_nn (h : Wk n A C) {k : Nat} (hk : k < n) {x : Vec} (hr : 0 ≤ rs n A C (k + 1) x) : 0 ≤ sqv n A C k x := Int.mul_nonneg (Int.le_of_lt (h.pos k (by omega))) hr
theorem Wk.sq_le (h : Wk n A C) {k : Nat} (hk : k < n) (x : Vec) : sqv n A C k x ≤ 20 * (det (k + 1) A * det (k + 1) A) := by
 have h1 := h.rle x (show k + 1 ≤ n by omega)
 have h2 := h.gr k hk
 have h3 := h.pos k (by omega)
 have h4 := h.pos (k + 1) (by omega)
 have h5 := Int.mul_le_mul_of_nonneg_left h1 (Int.le_of_lt h3)
 have h6 := Int.mul_le_mul_of_nonneg_right h2 (Int.le_of_lt h4)
 unfold sqv
 grind
theorem Wk.rnext (h : Wk n A C) {k : Nat} (hk : k < n) {x : Vec} (hr : 0 ≤ rs n A C k x) : 0 ≤ rs n A C (k + 1) x := by
 have h1 := h.rstep hk x
 have h2 := LA.sq_nn (det (k + 1) A * x k + shv n A k x)
 have h3 := h.pos (k + 1) (by omega)
 have h4 := h.pos k (by omega)
 have h5 := Int.mul_nonneg hr (Int.le_of_lt h3)
 refine Int.not_lt.1 fun hlt => ?_
 have := Int.mul_neg_of_pos_of_neg h4 hlt
 unfold sqv at h1
 omega
theorem Wk.rsq (h : Wk n A C) {k : Nat} (hk : k < n) {x : Vec} (hr : 0 ≤ rs n A C (k + 1) x) : 2 * rtI (sqv n A C k x) ≤ 9 * det (k + 1) A := by
 have h1 := h.sq_le hk x
 have h2 := (lu (u := rtI (sqv n A C k x)) (h.sq_nn hk hr)).2 ⟨by have := kp (sqv n A C k x); omega, Int.le_refl _⟩
 have h3 := kp (sqv n A C k x)
 have h4 := h.pos (k + 1) (by omega)
 refine Int.not_lt.1 fun hlt => ?_
 have h5 := Int.mul_le_mul (Int.le_of_lt hlt) (Int.le_of_lt hlt) (by omega) (by omega)
 have h6 := Int.mul_pos h4 h4
 have e1 : 9 * det (k + 1) A * (9 * det (k + 1) A) = 81 * (det (k + 1) A * det (k + 1) A) := by grind
 have e2 : 2 * rtI (sqv n A C k x) * (2 * rtI (sqv n A C k x)) = 4 * (rtI (sqv n A C k x) * rtI (sqv n A C k x)) := by grind
 omega
end
section
variable {n : Nat} {A : Mat} {C : Int}
theorem nR {d a b : Int} (hd : 0 < d) (h : d * a ≤ d * b) : a ≤ b := Int.le_of_mul_le_mul_left h hd
theorem lv {d l y : Int} {m : Nat} (hl : 2 * l ≤ d ∧ -2 * l ≤ d) (hy : y.natAbs ≤ m) : 2 * (l * y) ≤ d * (m : Int) ∧ -(2 * (l * y)) ≤ d * (m : Int) := by
 have hd : 0 ≤ d := by omega
 have h1 : (2 * l).natAbs ≤ d.natAbs := by omega
 have h2 := Nat.mul_le_mul h1 hy
 rw [← Int.natAbs_mul] at h2
 have e : 2 * l * y = 2 * (l * y) := Int.mul_assoc ..
 rw [e] at h2
 have h3 : ((d.natAbs * m : Nat) : Int) = d * (m : Int) := by rw [Int.natCast_mul, Int.natAbs_of_nonneg hd]
 omega
theorem Wk.ub (h : Wk n A C) {k : Nat} (hk : k < n) {x : Vec} (hr : 0 ≤ rs n A C k x) {S : Nat} (hs : 2 * shv n A k x ≤ det (k + 1) A * (S : Int) ∧ -(2 * shv n A k x) ≤ det (k + 1) A * (S : Int)) :
  2 * (x k).natAbs ≤ 9 + S := by
 have h1 := h.rstep hk x
 have h2 := h.rnext hk hr
 have h3 := h.rsq hk h2
 have h4 := h.pos (k + 1) (by omega)
 have h5 := Int.mul_nonneg hr (Int.le_of_lt h4)
 have h6 := (lu (h.sq_nn hk h2)).1 (show (det (k + 1) A * x k + shv n A k x) * (det (k + 1) A * x k + shv n A k x) ≤ sqv n A C k x by omega)
 have a1 : det (k + 1) A * (2 * x k) ≤ det (k + 1) A * (9 + (S : Int)) := by rw [Int.mul_add, Int.mul_left_comm]; omega
 have a2 : det (k + 1) A * (-(2 * x k)) ≤ det (k + 1) A * (9 + (S : Int)) := by rw [Int.mul_add, Int.mul_neg, Int.mul_left_comm]; omega
 have := nR h4 a1
 have := nR h4 a2
 omega
theorem Wk.s0 {k : Nat} (hk : k + 1 = n) (x : Vec) : shv n A k x = 0 := by
 unfold shv; rw [show n - k - 1 = 0 by omega, dm]
theorem Wk.c1 (h : Wk n A C) {k : Nat} (hk : k + 1 = n) {x : Vec} (hr : 0 ≤ rs n A C k x) : (x k).natAbs ≤ 4 := by
 have := h.ub (by omega) hr (S := 0) (by rw [Wk.s0 hk]; omega)
 omega
theorem Wk.s1 (h : Wk n A C) {k : Nat} (hk : k + 2 = n) {x : Vec} (hr : 0 ≤ rs n A C (k + 1) x) :
  2 * shv n A k x ≤ det (k + 1) A * (4 : Nat) ∧ -(2 * shv n A k x) ≤ det (k + 1) A * (4 : Nat) := by
 have h1 := h.c1 (k := k + 1) (by omega) hr
 have h2 := lv (h.sh k (k + 1) (by omega) (by omega)) h1
 unfold shv
 rw [show n - k - 1 = 1 by omega, bG, dm]
 rw [Int.zero_add]; exact h2
theorem Wk.c2 (h : Wk n A C) {k : Nat} (hk : k + 2 = n) {x : Vec} (hr : 0 ≤ rs n A C k x) : (x k).natAbs ≤ 6 := by
 have := h.ub (by omega) hr (S := 4) (h.s1 hk (h.rnext (by omega) hr))
 omega
theorem Wk.s2 (h : Wk n A C) {k : Nat} (hk : k + 3 = n) {x : Vec} (hr : 0 ≤ rs n A C (k + 1) x) :
  2 * shv n A k x ≤ det (k + 1) A * (10 : Nat) ∧ -(2 * shv n A k x) ≤ det (k + 1) A * (10 : Nat) := by
 have h1 := h.c2 (k := k + 1) (by omega) hr
 have h2 := h.c1 (k := k + 2) (by omega) (h.rnext (by omega) hr)
 have h3 := lv (h.sh k (k + 1) (by omega) (by omega)) h1
 have h4 := lv (h.sh k (k + 2) (by omega) (by omega)) h2
 have h5 := h.pos (k + 1) (by omega)
 unfold shv
 rw [show n - k - 1 = 2 by omega, bG, bG, dm]
 rw [Int.zero_add]
 have e1 : bm A k k (k + 1 + 0) * x (k + 1 + 0) = bm A k k (k + 1) * x (k + 1) := rfl
 have e2 : bm A k k (k + 1 + 1) * x (k + 1 + 1) = bm A k k (k + 2) * x (k + 2) := rfl
 rw [e1, e2]
 omega
theorem Wk.c3 (h : Wk n A C) {k : Nat} (hk : k + 3 = n) {x : Vec} (hr : 0 ≤ rs n A C k x) : (x k).natAbs ≤ 9 := by
 have := h.ub (by omega) hr (S := 10) (h.s2 hk (h.rnext (by omega) hr))
 omega
theorem Wk.rup (h : Wk n A C) {x : Vec} : ∀ (m k : Nat), k + m ≤ n → 0 ≤ rs n A C k x → 0 ≤ rs n A C (k + m) x
 | 0, _, _, hr => hr
 | m + 1, k, hm, hr => h.rnext (k := k + m) (by omega) (Wk.rup h m k (by omega) hr)
theorem Wk.cb (h : Wk n A C) {k : Nat} {x : Vec} (hr : 0 ≤ rs n A C k x) {j : Nat} (hj : k ≤ j) (hjn : j < n) : (x j).natAbs ≤ 9 := by
 have hn := h.hn
 have h1 := h.rup (j - k) k (by omega) hr
 rw [show k + (j - k) = j by omega] at h1
 rcases Nat.lt_or_ge (j + 2) n with h2 | h2
 ·exact h.c3 (by omega) h1
 ·rcases Nat.lt_or_ge (j + 1) n with h3 | h3
  ·have := h.c2 (by omega) h1; omega
  ·have := h.c1 (by omega) h1; omega
theorem Wk.sb (h : Wk n A C) {k : Nat} (hk : k < n) {x : Vec} (hr : 0 ≤ rs n A C (k + 1) x) : shv n A k x ≤ 5 * det (k + 1) A ∧ -shv n A k x ≤ 5 * det (k + 1) A := by
 have hn := h.hn
 have hp := h.pos (k + 1) (by omega)
 rcases Nat.lt_or_ge (k + 2) n with h2 | h2
 ·have := h.s2 (by omega) hr; omega
 ·rcases Nat.lt_or_ge (k + 1) n with h3 | h3
  ·have := h.s1 (by omega) hr; omega
  ·rw [Wk.s0 (by omega)]; omega
def loV (n : Nat) (A : Mat) (C : Int) (k : Nat) (x : Vec) : Int := -((rtI (sqv n A C k x) + shv n A k x) / det (k + 1) A)
def hiV (n : Nat) (A : Mat) (C : Int) (k : Nat) (x : Vec) : Int := (rtI (sqv n A C k x) - shv n A k x) / det (k + 1) A
def cntV (n : Nat) (A : Mat) (C : Int) (k : Nat) (x : Vec) : Int := hiV n A C k x - loV n A C k x + 1
theorem Wk.hi_iff (h : Wk n A C) {k : Nat} (hk : k < n) (x : Vec) (c : Int) : c ≤ hiV n A C k x ↔ det (k + 1) A * c + shv n A k x ≤ rtI (sqv n A C k x) := by
 unfold hiV
 rw [Int.le_ediv_iff_mul_le (h.pos (k + 1) (by omega)), Int.mul_comm]
 omega
theorem Wk.lo_iff (h : Wk n A C) {k : Nat} (hk : k < n) (x : Vec) (c : Int) : loV n A C k x ≤ c ↔ -(det (k + 1) A * c + shv n A k x) ≤ rtI (sqv n A C k x) := by
 unfold loV
 have := Int.le_ediv_iff_mul_le (a := -c) (b := rtI (sqv n A C k x) + shv n A k x) (h.pos (k + 1) (by omega))
 rw [Int.mul_comm, Int.mul_neg] at this
 omega
theorem gQ {k : Nat} {x y : Vec} (h : ∀ j, k < j → j < n → x j = y j) : sqv n A C k x = sqv n A C k y := by unfold sqv; rw [vd fun j hj hjn => h j (by omega) hjn]
theorem Wk.in_iff (h : Wk n A C) {k : Nat} (hk : k < n) {x y : Vec} (hr : 0 ≤ rs n A C (k + 1) x) (hy : ∀ j, k < j → j < n → y j = x j) :
  0 ≤ rs n A C k y ↔ loV n A C k x ≤ y k ∧ y k ≤ hiV n A C k x := by
 rw [h.hi_iff hk, h.lo_iff hk]
 have h1 := h.rstep hk y
 rw [gQ hy, gP hy] at h1
 have h2 := lu (u := det (k + 1) A * y k + shv n A k x) (h.sq_nn hk hr)
 have h3 := h.pos (k + 1) (by omega)
 constructor
 ·intro h4
  have := Int.mul_nonneg h4 (Int.le_of_lt h3)
  have := h2.1 (by omega)
  omega
 ·intro h4
  have h5 := h2.2 (by omega)
  refine Int.not_lt.1 fun hlt => ?_
  have := Int.mul_neg_of_neg_of_pos hlt h3
  omega
theorem Wk.hi9 (h : Wk n A C) {k : Nat} (hk : k < n) {x : Vec} (hr : 0 ≤ rs n A C (k + 1) x) : hiV n A C k x ≤ 9 := by
 have h1 := (h.hi_iff hk x (hiV n A C k x)).1 (Int.le_refl _)
 have h2 := h.rsq hk hr
 have h3 := h.sb hk hr
 have h4 := h.pos (k + 1) (by omega)
 refine Int.not_lt.1 fun hlt => ?_
 have := Int.mul_le_mul_of_nonneg_left (show 10 ≤ hiV n A C k x by omega) (Int.le_of_lt h4)
 omega
theorem Wk.lo9 (h : Wk n A C) {k : Nat} (hk : k < n) {x : Vec} (hr : 0 ≤ rs n A C (k + 1) x) : -9 ≤ loV n A C k x := by
 have h1 := (h.lo_iff hk x (loV n A C k x)).1 (Int.le_refl _)
 have h2 := h.rsq hk hr
 have h3 := h.sb hk hr
 have h4 := h.pos (k + 1) (by omega)
 refine Int.not_lt.1 fun hlt => ?_
 have := Int.mul_le_mul_of_nonneg_left (show loV n A C k x ≤ -10 by omega) (Int.le_of_lt h4)
 omega
theorem Wk.cnt0 (h : Wk n A C) {k : Nat} (hk : k < n) (x : Vec) : 0 ≤ cntV n A C k x := by
 have h4 := h.pos (k + 1) (by omega)
 have h1 := (h.lo_iff hk x (loV n A C k x - 1))
 have h2 := (h.hi_iff hk x (hiV n A C k x + 1))
 have h3 := kp (sqv n A C k x)
 unfold cntV
 refine Int.not_lt.1 fun hlt => ?_
 have a1 : ¬ (loV n A C k x ≤ loV n A C k x - 1) := by omega
 have a2 : ¬ (hiV n A C k x + 1 ≤ hiV n A C k x) := by omega
 have b1 := Int.lt_of_not_ge (mt h1.2 a1)
 have b2 := Int.lt_of_not_ge (mt h2.2 a2)
 have h5 := Int.mul_le_mul_of_nonneg_left (show hiV n A C k x + 1 ≤ loV n A C k x - 1 by omega) (Int.le_of_lt h4)
 omega
theorem Wk.cnt19 (h : Wk n A C) {k : Nat} (hk : k < n) {x : Vec} (hr : 0 ≤ rs n A C (k + 1) x) : cntV n A C k x ≤ 19 := by
 have := h.hi9 hk hr
 have := h.lo9 hk hr
 unfold cntV; omega
end
end Go.LA
