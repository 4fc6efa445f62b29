import Derived.Test.YtppipmkpmmdcjaaGreatA03
namespace Go.LM
theorem dS (k : Nat) : 4294967296 ^ (k + 1) = 4294967296 ^ k * 4294967296 := Nat.pow_succ _ _
theorem kI {S : List Nat} {k c a b N : Nat} (hk : k < S.length) (h0 : S.getD k 0 = 0) (h : natOf S + c * 4294967296 ^ k = N) :
  natOf (S.set k ((c + (a + b)) % 4294967296)) + (c + (a + b)) / 4294967296 * 4294967296 ^ (k + 1) = N + (a + b) * 4294967296 ^ k := by
 have h1 := cJ (v := (c + (a + b)) % 4294967296) hk
 rw [h0, Nat.zero_mul, Nat.add_zero] at h1
 rw [h1, dS]
 have h2 := Nat.mod_add_div (c + (a + b)) 4294967296
 generalize (c + (a + b)) % 4294967296 = r at *
 generalize (c + (a + b)) / 4294967296 = q at *
 generalize 4294967296 ^ k = P at *
 have e : r * P + q * (P * 4294967296) = (c + (a + b)) * P := by rw [← h2]; grind
 have e2 : (c + (a + b)) * P = c * P + (a + b) * P := Nat.add_mul _ _ _
 omega
theorem rC {D : List Nat} {k br a x M N : Nat} (hk : k < D.length) (h0 : D.getD k 0 = 0) (h : natOf D + M = N + br * 4294967296 ^ k) :
  (x + br ≤ a → natOf (D.set k (a - (x + br))) + (M + x * 4294967296 ^ k) = N + a * 4294967296 ^ k) ∧
  (x + br ≤ 4294967296 + a → natOf (D.set k (4294967296 + a - (x + br))) + (M + x * 4294967296 ^ k) = N + a * 4294967296 ^ k + 1 * 4294967296 ^ (k + 1)) := by
 constructor
 ·intro hle
  have h1 := cJ (v := a - (x + br)) hk
  rw [h0, Nat.zero_mul, Nat.add_zero] at h1
  rw [h1]
  obtain ⟨d, rfl⟩ : ∃ d, a = x + br + d := ⟨a - (x + br), by omega⟩
  rw [show x + br + d - (x + br) = d by omega]
  generalize 4294967296 ^ k = P at *
  have e : (x + br + d) * P = x * P + br * P + d * P := by grind
  omega
 ·intro hle
  have h1 := cJ (v := 4294967296 + a - (x + br)) hk
  rw [h0, Nat.zero_mul, Nat.add_zero] at h1
  rw [h1, dS, Nat.one_mul]
  obtain ⟨d, hd⟩ : ∃ d, 4294967296 + a = x + br + d := ⟨4294967296 + a - (x + br), by omega⟩
  rw [show 4294967296 + a - (x + br) = d by omega]
  generalize 4294967296 ^ k = P at *
  have e : (4294967296 + a) * P = (x + br + d) * P := by rw [hd]
  have e1 : (x + br + d) * P = x * P + br * P + d * P := by grind
  have e2 : (4294967296 + a) * P = P * 4294967296 + a * P := by grind
  omega
theorem lZ {U : List Nat} {k br x M N : Nat} (hk : k < U.length) (h : natOf U + M = N + br * 4294967296 ^ k) :
  (x + br ≤ U.getD k 0 → natOf (U.set k (U.getD k 0 - (x + br))) + (M + x * 4294967296 ^ k) = N) ∧
  (x + br ≤ 4294967296 + U.getD k 0 → natOf (U.set k (4294967296 + U.getD k 0 - (x + br))) + (M + x * 4294967296 ^ k) = N + 1 * 4294967296 ^ (k + 1)) := by
 constructor
 ·intro hle
  have h1 := cJ (v := U.getD k 0 - (x + br)) hk
  generalize U.getD k 0 = a at *
  obtain ⟨d, rfl⟩ : ∃ d, a = x + br + d := ⟨a - (x + br), by omega⟩
  rw [show x + br + d - (x + br) = d by omega] at *
  generalize 4294967296 ^ k = P at *
  have e : (x + br + d) * P = x * P + br * P + d * P := by grind
  omega
 ·intro hle
  have h1 := cJ (v := 4294967296 + U.getD k 0 - (x + br)) hk
  generalize U.getD k 0 = a at *
  obtain ⟨d, hd⟩ : ∃ d, 4294967296 + a = x + br + d := ⟨4294967296 + a - (x + br), by omega⟩
  rw [show 4294967296 + a - (x + br) = d by omega] at *
  rw [dS, Nat.one_mul]
  generalize 4294967296 ^ k = P at *
  have e : (4294967296 + a) * P = (x + br + d) * P := by rw [hd]
  have e1 : (x + br + d) * P = x * P + br * P + d * P := by grind
  have e2 : (4294967296 + a) * P = P * 4294967296 + a * P := by grind
  omega
theorem ma {U : List Nat} {k c x N : Nat} (hk : k < U.length) (h : natOf U + c * 4294967296 ^ k = N) :
  natOf (U.set k ((c + (U.getD k 0 + x)) % 4294967296)) + (c + (U.getD k 0 + x)) / 4294967296 * 4294967296 ^ (k + 1) = N + x * 4294967296 ^ k := by
 have h1 := cJ (v := (c + (U.getD k 0 + x)) % 4294967296) hk
 have h2 := Nat.mod_add_div (c + (U.getD k 0 + x)) 4294967296
 rw [dS]
 generalize (c + (U.getD k 0 + x)) % 4294967296 = r at *
 generalize (c + (U.getD k 0 + x)) / 4294967296 = q at *
 generalize U.getD k 0 = a at *
 generalize 4294967296 ^ k = P at *
 have e : r * P + q * (P * 4294967296) = (c + (a + x)) * P := by rw [← h2]; grind
 have e2 : (c + (a + x)) * P = c * P + a * P + x * P := by grind
 omega
theorem qw {r m X b Q : Nat} (h : b * Q + r = X) (_hb : 0 < b) : b * ((r * 4294967296 + m) / b + 4294967296 * Q) + (r * 4294967296 + m) % b = m + 4294967296 * X := by
 have h2 := Nat.div_add_mod (r * 4294967296 + m) b
 rw [Nat.mul_add, ← h]
 generalize (r * 4294967296 + m) / b = y at *
 generalize (r * 4294967296 + m) % b = z at *
 grind
theorem rD {S : List Nat} {k c m s N : Nat} (hk : k < S.length) (h0 : S.getD k 0 = 0) (h : natOf S + c * 4294967296 ^ k = N) (hc : c < 2 ^ s) :
  natOf (S.set k ((c ||| m <<< s) % 4294967296)) + (c ||| m <<< s) / 4294967296 * 4294967296 ^ (k + 1) = N + m * 2 ^ s * 4294967296 ^ k := by
 have e : c ||| m <<< s = c + (m * 2 ^ s + 0) := by
  rw [Nat.or_comm, ← Nat.shiftLeft_add_eq_or_of_lt hc, Nat.shiftLeft_eq]; omega
 rw [e, kI hk h0 h, Nat.add_zero]
theorem qx {c m s : Nat} (hc : c < 2 ^ s) (hm : m < 4294967296) : (c ||| m <<< s) / 4294967296 < 2 ^ s := by
 have e : c ||| m <<< s = m * 2 ^ s + c := by rw [Nat.or_comm, ← Nat.shiftLeft_add_eq_or_of_lt hc, Nat.shiftLeft_eq]
 rw [e]
 refine (Nat.div_lt_iff_lt_mul (by decide)).2 ?_
 have : (m + 1) * 2 ^ s ≤ 4294967296 * 2 ^ s := Nat.mul_le_mul_right _ hm
 rw [Nat.add_mul, Nat.one_mul] at this
 have h2 := Nat.mul_comm 4294967296 (2 ^ s)
 omega
def shrL (s : Nat) : List Nat → List Nat
 | [] => []
 | d :: ds => (d + 4294967296 * ds.headD 0) / 2 ^ s % 4294967296 :: shrL s ds
theorem kJ (s : Nat) : ∀ l, (shrL s l).length = l.length
 | [] => rfl
 | d :: ds => by simp [shrL, kJ s ds]
theorem nO (s : Nat) : ∀ l, Lim (shrL s l)
 | [] => fun d hd => by simp [shrL] at hd
 | d :: ds => fun x hx => by
  rcases List.mem_cons.1 hx with e | e
  ·rw [e]; exact Nat.mod_lt _ (by decide)
  ·exact nO s ds x e
theorem kK {s : Nat} (hs : s ≤ 32) : ∀ {l : List Nat}, Lim l → natOf (shrL s l) = natOf l / 2 ^ s
 | [], _ => by simp [shrL, natOf]
 | d :: ds, h => by
  have hd : d < 4294967296 := h d (by simp)
  have hds : Lim ds := fun x hx => h x (by simp [hx])
  have ih := kK hs hds
  obtain ⟨Y, hY⟩ : ∃ Y, natOf ds = ds.headD 0 + 4294967296 * Y := by
   cases ds with
   | nil => exact ⟨0, rfl⟩
   | cons x xs => exact ⟨natOf xs, rfl⟩
  show (d + 4294967296 * ds.headD 0) / 2 ^ s % 4294967296 + 4294967296 * natOf (shrL s ds) = (d + 4294967296 * natOf ds) / 2 ^ s
  rw [ih]
  have hT : 4294967296 = 2 ^ s * 2 ^ (32 - s) := by rw [← Nat.pow_add, show s + (32 - s) = 32 by omega]
  have hS : 0 < 2 ^ s := Nat.two_pow_pos s
  generalize 2 ^ s = S at *
  generalize 2 ^ (32 - s) = T at *
  generalize ds.headD 0 = x0 at *
  generalize natOf ds = X at *
  have key : ∀ Z, (d + 4294967296 * Z) / S = d / S + T * (Z % S) + 4294967296 * (Z / S) := fun Z => by
   have h1 := Nat.mod_add_div Z S
   have e : d + 4294967296 * Z = d + S * (T * (Z % S) + 4294967296 * (Z / S)) := by
    conv => lhs; rw [← h1]
    rw [hT]; grind
   rw [e, Nat.add_mul_div_left _ _ hS]
   omega
  rw [key x0, key X]
  have hmod : X % S = x0 % S := by
   rw [hY, hT, Nat.mul_assoc, Nat.add_mul_mod_self_left]
  rw [hmod]
  have hlt : d / S + T * (x0 % S) < 4294967296 := by
   have h1 : d / S < T := (Nat.div_lt_iff_lt_mul hS).2 (by rw [Nat.mul_comm, ← hT]; exact hd)
   have h2 : x0 % S < S := Nat.mod_lt _ hS
   have h3 : T * (x0 % S + 1) ≤ T * S := Nat.mul_le_mul_left _ h2
   rw [Nat.mul_add, Nat.mul_one] at h3
   have h4 := Nat.mul_comm T S
   omega
  rw [Nat.add_mul_mod_self_left, Nat.mod_eq_of_lt hlt]
theorem mb (s : Nat) : ∀ (l : List Nat) (k : Nat), k < l.length → (shrL s l).getD k 0 = (l.getD k 0 + 4294967296 * l.getD (k + 1) 0) / 2 ^ s % 4294967296
 | [], k, h => absurd h (by simp)
 | d :: ds, 0, _ => by
  show (d + 4294967296 * ds.headD 0) / 2 ^ s % 4294967296 = (d + 4294967296 * (d :: ds).getD 1 0) / 2 ^ s % 4294967296
  cases ds <;> rfl
 | d :: ds, k + 1, h => by
  show (shrL s ds).getD k 0 = (ds.getD k 0 + 4294967296 * ds.getD (k + 1) 0) / 2 ^ s % 4294967296
  exact mb s ds k (by simpa using h)
end Go.LM
namespace Go.LM
theorem bU {l : List Nat} {k : Nat} (h : l.length ≤ k) : natOf (l.take k) = natOf l := by rw [List.take_of_length_le h]
theorem bQ (l : List Nat) (k : Nat) : natOf (l.take (k + 1)) = natOf (l.take k) + l.getD k 0 * 4294967296 ^ k := by
 by_cases h : k < l.length
 ·exact bS h
 ·rw [bU (by omega), bU (by omega), List.getD_eq_getElem?_getD, List.getElem?_eq_none (by omega)]; simp
theorem Lim.snoc {l : List Nat} {d : Nat} (h : Lim l) (hd : d < 4294967296) : Lim (l ++ [d]) := fun x hx => by
 rcases List.mem_append.1 hx with h' | h'
 ·exact h x h'
 ·rw [List.mem_singleton.1 h']; exact hd
theorem mc {S : List Nat} {c t N M : Nat} (h : natOf S + c * 4294967296 ^ S.length = N) (ht : t = c + M) :
  natOf (S ++ [t % 4294967296]) + t / 4294967296 * 4294967296 ^ (S.length + 1) = N + M * 4294967296 ^ S.length := by
 rw [dm, dS]
 have h2 := Nat.mod_add_div t 4294967296
 generalize t % 4294967296 = r at *
 generalize t / 4294967296 = q at *
 generalize 4294967296 ^ S.length = P at *
 have e : P * r + q * (P * 4294967296) = t * P := by rw [← h2]; grind
 have e2 : t * P = c * P + M * P := by rw [ht, Nat.add_mul]
 omega
theorem rE {S : List Nat} {br a x M N : Nat} (h : natOf S + M = N + br * 4294967296 ^ S.length) :
  (x + br ≤ a → natOf (S ++ [a - (x + br)]) + (M + x * 4294967296 ^ S.length) = N + a * 4294967296 ^ S.length) ∧
  (x + br ≤ 4294967296 + a → natOf (S ++ [4294967296 + a - (x + br)]) + (M + x * 4294967296 ^ S.length) = N + a * 4294967296 ^ S.length + 1 * 4294967296 ^ (S.length + 1)) := by
 rw [dS]
 constructor
 ·intro hle
  rw [dm]
  obtain ⟨d, rfl⟩ : ∃ d, a = x + br + d := ⟨a - (x + br), by omega⟩
  rw [show x + br + d - (x + br) = d by omega]
  generalize 4294967296 ^ S.length = P at *
  have e : (x + br + d) * P = x * P + br * P + P * d := by grind
  omega
 ·intro hle
  rw [dm]
  obtain ⟨d, hd⟩ : ∃ d, 4294967296 + a = x + br + d := ⟨4294967296 + a - (x + br), by omega⟩
  rw [show 4294967296 + a - (x + br) = d by omega]
  generalize 4294967296 ^ S.length = P at *
  have e : (4294967296 + a) * P = (x + br + d) * P := by rw [hd]
  have e1 : (x + br + d) * P = x * P + br * P + P * d := by grind
  have e2 : (4294967296 + a) * P = P * 4294967296 + a * P := by grind
  omega
end Go.LM
namespace Go.W
section
variable {P : Program} {S : World → Prop} {ops : List Oper} {K : Env → World → Prop} {rest : List (Oper × Option Bool)} {ρ : Env} {w : World} {b : Option Bool} {kf : Bool} {d : Nat} {dst : Option Nat} {T T' : TypeId} {pos : String} {af : Array Edge}
theorem o9 {x y : Operand} {m m' : Nat} {T'' : TypeId} (hx : ev ρ x = .int .u64 (m : Int)) (hy : ev ρ y = .int .u64 (m' : Int)) (h2 : m' ≤ 18446744073709551616)
  (h : RR P S ops K rest (upd ρ d (.int .u64 (((18446744073709551616 + m - m') % 18446744073709551616 : Nat) : Int))) w) : RR P S ops K ((⟨some d, .binOp .sub T' x y T'', T, pos, af, none⟩, b) :: rest) ρ w :=
 rf hx hy (by
  rw [show IntKind.u64.wrap ((m : Int) - (m' : Int)) = (((18446744073709551616 + m - m') % 18446744073709551616 : Nat) : Int) from (cT rfl).trans (by simp only [IntKind.bits]; omega)]
  exact h)
end
end Go.W
namespace Go.Proofs.YtppipmkpmmdcjaaGreat
open Go.W Go.LM
def IntK (k : Nat) (w : World) (v : Value) (z : Int) : Prop := ∃ neg a c ls, v = .agg (intL neg a ls.length c).toArray ∧ Limbs w a c ls ∧ z = sgn neg (natOf ls) ∧ ls.length ≤ k
theorem IntK.ext {k : Nat} {w w' : World} {v : Value} {z : Int} (h : IntK k w v z) (e : Ex w w') : IntK k w' v z := by obtain ⟨neg, a, c, ls, h1, h2, h3⟩ := h; exact ⟨neg, a, c, ls, h1, h2.ext e, h3⟩
theorem IntK.mono {k k' : Nat} {w : World} {v : Value} {z : Int} (h : IntK k w v z) (e : k ≤ k') : IntK k' w v z := by obtain ⟨neg, a, c, ls, h1, h2, h3, h4⟩ := h; exact ⟨neg, a, c, ls, h1, h2, h3, Nat.le_trans h4 e⟩
theorem IntK.lt {k : Nat} {w : World} {v : Value} {z : Int} (h : IntK k w v z) : z.natAbs < 4294967296 ^ k := by
 obtain ⟨neg, a, c, ls, h1, h2, rfl, h4⟩ := h
 rw [ef]
 exact Nat.lt_of_lt_of_le (bT h2.lim) (Nat.pow_le_pow_right (by decide) h4)
theorem IntC.k {lo k : Nat} {w : World} {v : Value} {z : Int} (h : IntC lo w v z) (hz : z.natAbs < 4294967296 ^ k) : IntK k w v z := by
 obtain ⟨neg, a, c, ls, h1, h2, rfl, h4, _, _⟩ := h
 rw [ef] at hz
 exact ⟨neg, a, c, ls, h1, h2, rfl, cR h4 hz⟩
theorem IntK.out {k : Nat} {w : World} {v : Value} {z : Int} (h : IntK k w v z) : ∃ cs : List Value, v = .agg cs.toArray ∧ cs.length = 2 ∧ cs.all Value.oneCell' = true := by
 obtain ⟨neg, a, c, ls, rfl, _⟩ := h; exact ⟨_, rfl, rfl, rfl⟩
def RetM (w : World) (p : List Nat → Prop) (v : Value) (w' : World) : Prop := ∃ ls a c, v = .slice a (List.length ls) c ∧ Limbs w' a c ls ∧ p ls ∧ Ex w w'
set_option maxHeartbeats 2000000 in
theorem nP {la lb : List Nat} {a b : Option Addr} {c d : Nat} {w : World} (ha : Limbs w a c la) (hb : Limbs w b d lb) (hla : la.length < 17592186044416) (hlb : lb.length < 17592186044416) :
  CallsR Tryz.prog 67 #[.slice a la.length c, .slice b lb.length d] w (RetM w fun ls => natOf ls = natOf la + natOf lb) := by
 refine aH (args := [_, _]) Tryz.func67 rfl rfl ?_
 repeat' (first|refine ai rfl ?_|refine aa ?_|refine aj ?_|refine ah rfl ?_|refine ae ?_|refine aA ?_)
 refine aY (ι := Nat × List Nat × Nat × Option Addr × Nat) [5, 6, 7, 8, 9, 10, 11, 12, 13, 14, 15, 16, 17, 18, 19, 20, 21, 22, 23, 24, 25, 26, 27, 28, 29, 30, 31, 32, 33, 34, 35, 36, 37, 38, 39, 40, 41, 42, 43, 44, 45, 46, 47, 48] (fun s => [(7, .int .i64 (s.1 : Int)), (5, .slice s.2.2.2.1 s.1 s.2.2.2.2), (6, .int .u64 (s.2.2.1 : Int))])
  (fun s w' => (s.1 ≤ la.length ∨ s.1 ≤ lb.length) ∧ s.2.1.length = s.1 ∧ Own w' w.heap.size 53 1 s.2.2.2.1 s.1 s.2.2.2.2 (limbsL s.2.1) ∧ Lim s.2.1 ∧ s.2.2.1 ≤ 1 ∧ natOf s.2.1 + s.2.2.1 * 4294967296 ^ s.1 = natOf (la.take s.1) + natOf (lb.take s.1) ∧ Ex w w')
  (fun s => la.length + lb.length - s.1) (0, [], 0, none, 0) ⟨rfl, rfl, rfl, trivial⟩ ⟨by simp, rfl, Own.nil _ _ _ _, by intro d hd; simp at hd, by simp, by simp [natOf], Ex.refl _⟩ ?_
 rintro ⟨i, S, cy, o, cap⟩ ξ w1 ⟨hi, hS, hO, hL, hcy, hN, hE⟩
 simp only at hi hS hO hL hcy hN
 show CW _ _ _ _ (over [(7, .int .i64 (i : Int)), (5, .slice o i cap), (6, .int .u64 (cy : Int))] _) w1
 have ha1 := ha.ext hE
 have hb1 := hb.ext hE
 have hxa := ha.lim.getD i
 have hxb := hb.lim.getD i
 have za : la.length ≤ i → la.getD i 0 = 0 := fun h => by rw [List.getD_eq_getElem?_getD, List.getElem?_eq_none h]; rfl
 have zb : lb.length ≤ i → lb.getD i 0 = 0 := fun h => by rw [List.getD_eq_getElem?_getD, List.getElem?_eq_none h]; rfl
 have fin : ∀ (t : Nat) (o' : Option Addr) (cap' : Nat) (w2 : World), (i < la.length ∨ i < lb.length) → t = cy + (la.getD i 0 + lb.getD i 0) → Own w2 w.heap.size 53 1 o' (i + 1) cap' (limbsL (S ++ [t % 4294967296])) → w1.grownBy w2 (Value.slice o i cap).ownBlock →
   ((i + 1 ≤ la.length ∨ i + 1 ≤ lb.length) ∧ (S ++ [t % 4294967296]).length = i + 1 ∧ Own w2 w.heap.size 53 1 o' (i + 1) cap' (limbsL (S ++ [t % 4294967296])) ∧ Lim (S ++ [t % 4294967296]) ∧ t / 4294967296 ≤ 1 ∧ natOf (S ++ [t % 4294967296]) + t / 4294967296 * 4294967296 ^ (i + 1) = natOf (la.take (i + 1)) + natOf (lb.take (i + 1)) ∧ Ex w w2) := by
  intro t o' cap' w2 hii ht hO' hg
  refine ⟨by omega, by simp [hS], hO', hL.snoc (Nat.mod_lt _ (by decide)), by omega, ?_, hO.grow_ex hg hE (Nat.le_refl _)⟩
  subst hS
  rw [mc hN ht, bQ, bQ, Nat.add_mul]
  omega
 repeat' (first|(refine aC rfl rfl (ha1.sl.plain (by simp; omega)) (by omega) ?_)|refine bI rfl ha1.sl (by omega) ?_|(refine aC rfl rfl (hb1.sl.plain (by simp; omega)) (by omega) ?_)|refine bI rfl hb1.sl (by omega) ?_|refine gL rfl (by assumption) ?_|refine fD rfl rfl (by omega) ?_|refine dD rfl ?_|refine d7 rfl rfl ?_|refine mQ rfl rfl rfl rfl hO (by omega) (by omega) hE.size (fun gx o2 c2 w2 hO2 hg2 hA2 => ?_)|refine ai rfl ?_|refine aa ?_|refine aj ?_|refine ah rfl ?_|refine ae ?_|refine bh rfl ?_|refine bR rfl rfl ?_|refine cB rfl rfl ?_|refine j8 rfl rfl (fun hc => ?_) (fun hc => ?_)|refine aZ rfl rfl (by omega) (by omega) ?_|refine aD rfl ?_|refine aP rfl (fun hc => ?_) (fun hc => ?_)|refine aA ?_|refine aV ?_|refine aL ?_|refine aW ?_|refine aK ?_|refine aR ?_|refine aF ?_)
 all_goals first
  | (exfalso; omega)
  | (refine ⟨⟨(i + 1, _, _, o2, c2), fin _ o2 c2 w2 (by omega) (by omega) hO2 hg2, by simp only; omega, rfl, rfl, rfl, trivial⟩, (by (repeat (first|exact aE _ _ _|refine aw rfl ?_|refine au rfl ?_|refine ak rfl ?_|refine ao rfl ?_)))⟩; done)
  | skip
 have hla2 := bU (l := la) (k := i) (by omega)
 have hlb2 := bU (l := lb) (k := i) (by omega)
 refine bK rfl (rt rfl) ⟨S ++ [cy % 4294967296], o2, c2, by rw [List.length_append, hS]; rfl, ⟨hO2.sl, by have := hO2.cap; simp; omega, hL.snoc (Nat.mod_lt _ (by decide)), by simp; omega⟩, ?_, hO.grow_ex hg2 hE (Nat.le_refl _)⟩
 show natOf (S ++ [cy % 4294967296]) = _
 rw [dm, hS, Nat.mod_eq_of_lt (by omega), Nat.mul_comm, hN, hla2, hlb2]
set_option maxHeartbeats 2000000 in
theorem dU {la lb : List Nat} {a b : Option Addr} {c d : Nat} {w : World} (ha : Limbs w a c la) (hb : Limbs w b d lb) (hab : natOf lb ≤ natOf la) (cb : Canon lb) (_ca : Canon la) :
  CallsR Tryz.prog 68 #[.slice a la.length c, .slice b lb.length d] w (RetM w fun ls => natOf ls = natOf la - natOf lb) := by
 have hll : lb.length ≤ la.length := cR cb (Nat.lt_of_le_of_lt hab (bT ha.lim))
 have hlen := ha.len
 refine aH (args := [_, _]) Tryz.func68 rfl rfl ?_
 repeat' (first|refine ai rfl ?_|refine aa ?_|refine aj ?_|refine ah rfl ?_|refine ae ?_|refine aA ?_)
 refine aY (ι := Nat × List Nat × Nat × Option Addr × Nat) [5, 6, 7, 8, 9, 10, 11, 12, 13, 14, 15, 16, 17, 18, 19, 20, 21, 22, 23, 24, 25, 26, 27, 28, 29, 30, 31, 32, 33, 34, 35, 36, 37, 38, 39, 40, 41, 42, 43, 44] (fun s => [(7, .int .i64 (s.1 : Int)), (5, .slice s.2.2.2.1 s.1 s.2.2.2.2), (6, .int .u64 (s.2.2.1 : Int))])
  (fun s w' => s.1 ≤ la.length ∧ s.2.1.length = s.1 ∧ Own w' w.heap.size 53 1 s.2.2.2.1 s.1 s.2.2.2.2 (limbsL s.2.1) ∧ Lim s.2.1 ∧ s.2.2.1 ≤ 1 ∧ natOf s.2.1 + natOf (lb.take s.1) = natOf (la.take s.1) + s.2.2.1 * 4294967296 ^ s.1 ∧ Ex w w')
  (fun s => la.length - s.1) (0, [], 0, none, 0) ⟨rfl, rfl, rfl, trivial⟩ ⟨by simp, rfl, Own.nil _ _ _ _, by intro d hd; simp at hd, by simp, by simp [natOf], Ex.refl _⟩ ?_
 rintro ⟨i, S, br, o, cap⟩ ξ w1 ⟨hi, hS, hO, hL, hbr, hN, hE⟩
 simp only at hi hS hO hL hbr hN
 show CW _ _ _ _ (over [(7, .int .i64 (i : Int)), (5, .slice o i cap), (6, .int .u64 (br : Int))] _) w1
 have ha1 := ha.ext hE
 have hb1 := hb.ext hE
 have hxa := ha.lim.getD i
 have hxb := hb.lim.getD i
 have zb : lb.length ≤ i → lb.getD i 0 = 0 := fun h => by rw [List.getD_eq_getElem?_getD, List.getElem?_eq_none h]; rfl
 have fin : ∀ (v br' : Nat) (o' : Option Addr) (cap' : Nat) (w2 : World), i < la.length → (lb.getD i 0 + br ≤ la.getD i 0 ∧ v = la.getD i 0 - (lb.getD i 0 + br) ∧ br' = 0 ∨ la.getD i 0 < lb.getD i 0 + br ∧ v = 4294967296 + la.getD i 0 - (lb.getD i 0 + br) ∧ br' = 1) → Own w2 w.heap.size 53 1 o' (i + 1) cap' (limbsL (S ++ [v])) → w1.grownBy w2 (Value.slice o i cap).ownBlock →
   (i + 1 ≤ la.length ∧ (S ++ [v]).length = i + 1 ∧ Own w2 w.heap.size 53 1 o' (i + 1) cap' (limbsL (S ++ [v])) ∧ Lim (S ++ [v]) ∧ br' ≤ 1 ∧ natOf (S ++ [v]) + natOf (lb.take (i + 1)) = natOf (la.take (i + 1)) + br' * 4294967296 ^ (i + 1) ∧ Ex w w2) := by
  intro v br' o' cap' w2 hii hv hO' hg
  refine ⟨by omega, by simp [hS], hO', hL.snoc (by omega), by omega, ?_, hO.grow_ex hg hE (Nat.le_refl _)⟩
  subst hS
  rw [bQ, bQ]
  have hst := rE (a := la.getD S.length 0) (x := lb.getD S.length 0) hN
  rcases hv with ⟨h1, rfl, rfl⟩ | ⟨h1, rfl, rfl⟩
  ·rw [hst.1 h1, Nat.zero_mul]; rfl
  ·rw [hst.2 (by omega)]
 repeat' (first|(refine aC rfl rfl (ha1.sl.plain (by simp; omega)) (by omega) ?_)|refine bI rfl ha1.sl (by omega) ?_|(refine aC rfl rfl (hb1.sl.plain (by simp; omega)) (by omega) ?_)|refine bI rfl hb1.sl (by omega) ?_|refine gL rfl (by assumption) ?_|refine fD rfl rfl (by omega) ?_|refine dD rfl ?_|refine o9 rfl rfl (by omega) ?_|refine mQ rfl rfl rfl rfl hO (by omega) (by omega) hE.size (fun gx o2 c2 w2 hO2 hg2 hA2 => ?_)|refine bI rfl (ha.ext (hO.grow_ex hg2 hE (Nat.le_refl _))).sl (by omega) ?_|refine ai rfl ?_|refine aa ?_|refine aj ?_|refine ah rfl ?_|refine ae ?_|refine bh rfl ?_|refine aZ rfl rfl (by omega) (by omega) ?_|refine aP rfl (fun hc => ?_) (fun hc => ?_)|refine aA ?_|refine aV ?_|refine aL ?_|refine aW ?_|refine aK ?_|refine aR ?_|refine aF ?_)
 all_goals first
  | (refine ⟨⟨(i + 1, _, 1, o2, c2), fin _ 1 o2 c2 w2 (by omega) (by omega) hO2 hg2, by simp only; omega, rfl, rfl, rfl, trivial⟩, (by (repeat (first|exact aE _ _ _|refine aw rfl ?_|refine au rfl ?_|refine ak rfl ?_|refine ao rfl ?_)))⟩; done)
  | (refine ⟨⟨(i + 1, _, 0, o2, c2), fin _ 0 o2 c2 w2 (by omega) (by omega) hO2 hg2, by simp only; omega, rfl, rfl, rfl, trivial⟩, (by (repeat (first|exact aE _ _ _|refine aw rfl ?_|refine au rfl ?_|refine ak rfl ?_|refine ao rfl ?_)))⟩; done)
  | skip
 have hla2 := bU (l := la) (k := i) (by omega)
 have hlb2 := bU (l := lb) (k := i) (by omega)
 have hi2 : i = la.length := by omega
 have hlt : natOf S < 4294967296 ^ i := by rw [← hS]; exact bT hL
 rw [hla2, hlb2] at hN
 have hbr0 : br = 0 := by
  rcases Nat.eq_zero_or_pos br with h | h
  ·exact h
  ·have : br = 1 := by omega
   rw [this, Nat.one_mul] at hN
   omega
 rw [hbr0, Nat.zero_mul] at hN
 refine bK rfl (rt rfl) ⟨S, o, cap, by rw [hS]; rfl, ⟨hO.sl, by have := hO.cap; omega, hL, by omega⟩, ?_, hE⟩
 show natOf S = _
 omega
end Go.Proofs.YtppipmkpmmdcjaaGreat
namespace Go.Proofs.YtppipmkpmmdcjaaGreat
open Go.W Go.LM
set_option maxHeartbeats 2000000 in
theorem jP {la lb : List Nat} {a b : Option Addr} {c d : Nat} {w : World} (ha : Limbs w a c la) (hb : Limbs w b d lb) (hla : la.length < 17592186044416) (hlb : lb.length < 17592186044416) :
  CallsR Tryz.prog 49 #[.slice a la.length c, .slice b lb.length d] w fun v w' => ∃ ls, natOf ls = natOf la + natOf lb ∧ Canon ls ∧ RetN w ls v w' := by
 refine aH (args := [_, _]) Tryz.func49 rfl rfl ?_
 repeat' (first|refine ai rfl ?_|refine aa ?_|refine aj ?_|refine ah rfl ?_|refine ae ?_|refine bh rfl ?_)
 refine cD (ι := (List Nat × Option Addr × Nat) × List Nat × Option Addr × Nat) [0, 1, 14, 15] (fun s => [(0, .slice s.1.2.1 s.1.1.length s.1.2.2), (1, .slice s.2.2.1 s.2.1.length s.2.2.2)])
  (fun s w' => w' = w ∧ Limbs w s.1.2.1 s.1.2.2 s.1.1 ∧ Limbs w s.2.2.1 s.2.2.2 s.2.1 ∧ s.2.1.length ≤ s.1.1.length ∧ s.1.1.length < 17592186044416 ∧ natOf s.1.1 + natOf s.2.1 = natOf la + natOf lb) ?_ ?_
 ·repeat' (first|refine ai rfl ?_|refine aa ?_|refine ah rfl ?_|refine ae ?_|refine aP rfl (fun hc => ?_) (fun hc => ?_)|refine aF ?_)
  ·exact ⟨⟨((lb, b, d), la, a, c), ⟨rfl, hb, ha, by simp only; omega, hlb, Nat.add_comm _ _⟩, rfl, rfl, trivial⟩, (by (repeat (first|exact aM _ _|refine aw rfl ?_|refine au rfl ?_|refine ak rfl ?_|refine ao rfl ?_)))⟩
  ·exact ⟨⟨((la, a, c), lb, b, d), ⟨rfl, ha, hb, by simp only; omega, hla, rfl⟩, rfl, rfl, trivial⟩, (by (repeat (first|exact aM _ _|refine aw rfl ?_|refine au rfl ?_|refine ak rfl ?_|refine ao rfl ?_)))⟩
 clear ha hb hla hlb
 rintro ⟨⟨xa, a', c'⟩, xb, b', d'⟩ ξ w1 ⟨rfl, hxa, hxb, hle, hxl, hsum⟩
 simp only at hxa hxb hle hxl hsum
 show CW _ _ _ _ (over [(0, .slice a' xa.length c'), (1, .slice b' xb.length d')] _) w1
 repeat' (first|refine fE (m := xa.length) (m' := 1) rfl rfl (by omega) ?_|refine eM rfl rfl (by omega) (by omega) (fun g w2 hn2 => ⟨fun _ _ => trivial, ?_⟩)|refine ai rfl ?_|refine aa ?_|refine aj ?_|refine ah rfl ?_|refine ae ?_|refine bh rfl ?_|refine aA ?_)
 have l2 := hn2.lo
 refine aY (ι := Nat × List Nat × Nat) [6, 7, 22, 23, 24, 25, 26, 27, 28, 29, 30, 31, 32, 33, 34, 35, 36, 37, 38, 39, 40, 41, 42, 43, 44, 45] (fun s => [(22, .int .i64 (s.1 : Int)), (6, .int .u64 (s.2.2 : Int))])
  (fun s w' => s.1 ≤ xb.length ∧ Ex w1 w' ∧ Blk w' g 53 (limbsL s.2.1) ∧ s.2.1.length = xa.length + 1 ∧ Lim s.2.1 ∧ s.2.2 ≤ 1 ∧ natOf s.2.1 + s.2.2 * 4294967296 ^ s.1 = natOf (xa.take s.1) + natOf (xb.take s.1) ∧ ∀ j, s.1 ≤ j → s.2.1.getD j 0 = 0) (fun s => xb.length - s.1)
  (0, List.replicate (xa.length + 1) 0, 0) ⟨rfl, rfl, trivial⟩ ⟨by simp, hn2.ex, hn2.blk, by simp, Lim.zeros _, by simp, by simp [cV, natOf], fun j _ => by simp [List.getD_eq_getElem?_getD, List.getElem?_replicate]; split <;> rfl⟩ ?_
 rintro ⟨i, S, cy⟩ ξ2 w3 ⟨hi, hE, hbk, hSl, hSL, hcy, hN, hz⟩
 simp only at hi hbk hSl hSL hcy hN hz
 show CW _ _ _ _ (over [(22, .int .i64 (i : Int)), (6, .int .u64 (cy : Int))] _) w3
 have hya := hxa.lim.getD i
 have hyb := hxb.lim.getD i
 repeat' (first|refine ai rfl ?_|refine aa ?_|refine aj ?_|refine ah rfl ?_|refine ae ?_|refine bh rfl ?_|refine cO rfl rfl (by omega) (by omega) ?_|refine aP rfl (fun hc => ?_) (fun hc => ?_)|refine aA ?_|refine aV ?_|refine aL ?_|refine aW ?_|refine aF ?_)
 ·refine bi (late := []) (plan := [(0, none), (1, none), (2, none), (3, none), (4, none), (5, none), (6, none), (7, none), (8, none), (9, none), (10, none), (11, none), (12, none), (13, none)]) (fun w' => Ex w1 w') bB (by kernel_rfl) hE.drew ?_
  repeat' (first|(refine aC rfl rfl (hxa.sl.plain (by simp; omega)) (by omega) ?_)|(refine aC rfl rfl (hxb.sl.plain (by simp; omega)) (by omega) ?_)|refine bI rfl (fun _ h => hxa.sl.ext h) (by omega) ?_|refine bI rfl (fun _ h => hxb.sl.ext h) (by omega) ?_|refine gL rfl (by assumption) ?_|refine fD rfl rfl (by omega) ?_|refine dD rfl ?_|refine d7 rfl rfl ?_|refine aC rfl rfl ⟨_, _, rfl⟩ (by omega) ?_|refine dC rfl rfl hbk.drew (by omega) (fun w4 hc4 hb4 => ⟨fun _ _ => trivial, ?_⟩)|refine ai rfl ?_|refine aa ?_|refine aj ?_|refine ah rfl ?_|refine ae ?_|refine aZ rfl rfl (by omega) (by omega) ?_|refine aK ?_)
  refine ⟨⟨(i + 1, S.set i ((cy + (xa.getD i 0 + xb.getD i 0)) % 4294967296), (cy + (xa.getD i 0 + xb.getD i 0)) / 4294967296), ⟨by simp only; omega, hE.drew.chg hc4 l2, hb4, by simp [hSl], hSL.set (Nat.mod_lt _ (by decide)), by simp only; omega, ?_, ?_⟩, by simp only; omega, rfl, rfl, trivial⟩, (by (repeat (first|exact aE _ _ _|refine aw rfl ?_|refine au rfl ?_|refine ak rfl ?_|refine ao rfl ?_)))⟩
  ·have := kI (a := xa.getD i 0) (b := xb.getD i 0) (show i < S.length by omega) (hz i (Nat.le_refl _)) hN
   simp only
   rw [this, bQ, bQ, Nat.add_mul]
   omega
  ·intro k hk
   simp only at hk ⊢
   rw [ct (by omega), hz k (by omega)]
 ·obtain rfl : i = xb.length := by omega
  refine aY (ι := Nat × List Nat × Nat) [6, 8, 51, 52, 53, 54, 55, 56, 57, 58, 59, 60, 61, 62, 63, 64, 65, 66, 67, 68, 69, 70, 71, 72, 73, 74] (fun s => [(51, .int .i64 (s.1 : Int)), (6, .int .u64 (s.2.2 : Int))])
   (fun s w' => xb.length + s.1 ≤ xa.length ∧ Ex w1 w' ∧ Blk w' g 53 (limbsL s.2.1) ∧ s.2.1.length = xa.length + 1 ∧ Lim s.2.1 ∧ s.2.2 ≤ 1 ∧ natOf s.2.1 + s.2.2 * 4294967296 ^ (xb.length + s.1) = natOf (xa.take (xb.length + s.1)) + natOf xb ∧ ∀ j, xb.length + s.1 ≤ j → s.2.1.getD j 0 = 0) (fun s => xa.length - s.1)
   (0, S, cy) ⟨rfl, rfl, trivial⟩ ⟨by simpa using hle, hE, hbk, hSl, hSL, hcy, by rw [bU (Nat.le_refl _)] at hN; exact hN, hz⟩ ?_
  clear hbk hSl hSL hcy hN hz hE
  rintro ⟨i, S, cy⟩ ξ3 w3 ⟨hi, hE, hbk, hSl, hSL, hcy, hN, hz⟩
  simp only at hi hbk hSl hSL hcy hN hz
  show CW _ _ _ _ (over [(51, .int .i64 (i : Int)), (6, .int .u64 (cy : Int))] _) w3
  have hya := hxa.lim.getD (xb.length + i)
  have hxa3 := hxa.ext hE
  repeat' (first|refine fE (m := xb.length) (m' := i) rfl rfl (by omega) ?_|(refine aC (j := xb.length + i) rfl rfl (hxa.sl.plain (by simp; omega)) (by omega) ?_)|refine bI rfl hxa3.sl (by omega) ?_|refine gL rfl (by assumption) ?_|refine fD rfl rfl (by omega) ?_|refine dD rfl ?_|refine d7 rfl rfl ?_|refine aC (j := xb.length + i) rfl rfl ⟨_, _, rfl⟩ (by omega) ?_|refine aC (j := xa.length) rfl rfl ⟨_, _, rfl⟩ (by omega) ?_|refine dC rfl rfl hbk (by omega) (fun w4 hc4 hb4 => ⟨fun _ _ => trivial, ?_⟩)|refine ai rfl ?_|refine aa ?_|refine aj ?_|refine ah rfl ?_|refine ae ?_|refine bh rfl ?_|refine aZ rfl rfl (by omega) (by omega) ?_|refine aP rfl (fun hc => ?_) (fun hc => ?_)|refine aA ?_|refine aV ?_|refine aL ?_|refine aW ?_|refine aK ?_|refine aF ?_)
  ·refine ⟨⟨(i + 1, S.set (xb.length + i) ((cy + xa.getD (xb.length + i) 0) % 4294967296), (cy + xa.getD (xb.length + i) 0) / 4294967296), ⟨by simp only; omega, hE.chg hc4 l2, hb4, by simp [hSl], hSL.set (Nat.mod_lt _ (by decide)), by simp only; omega, ?_, ?_⟩, by simp only; omega, rfl, rfl, trivial⟩, (by (repeat (first|exact aE _ _ _|refine aw rfl ?_|refine au rfl ?_|refine ak rfl ?_|refine ao rfl ?_)))⟩
   ·have := kI (a := xa.getD (xb.length + i) 0) (b := 0) (show xb.length + i < S.length by omega) (hz _ (Nat.le_refl _)) hN
    rw [Nat.add_zero] at this
    simp only
    rw [← Nat.add_assoc, this, bQ xa]
    omega
   ·intro k hk
    simp only at hk ⊢
    rw [ct (by omega), hz k (by omega)]
  ·have hi2 : xb.length + i = xa.length := by omega
   rw [hi2, bU (Nat.le_refl _), hsum] at hN
   rw [Nat.mod_eq_of_lt (by omega)] at hb4
   have hL := Limbs.of_blk (c := xa.length + 1) hb4 (by simp [hSl]) (hSL.set (by omega)) (by simp [hSl]; omega)
   have hcall := cf hL
   rw [List.length_set, hSl] at hcall
   have hset := cJ (l := S) (k := xa.length) (v := cy) (by omega)
   rw [hz xa.length (by omega), Nat.zero_mul, Nat.add_zero, hN] at hset
   refine av hcall rfl ?_
   rintro v w5 ⟨rfl, hE5⟩
   refine ⟨fun _ _ => trivial, ?_⟩
   repeat' (first|refine ai rfl ?_|refine aa ?_|refine ae ?_|refine aR ?_)
   exact bK rfl (rt rfl) ⟨trimL (S.set xa.length cy), by rw [bf, hset], bD _, _, _, rfl, hL.trim.ext hE5, fun ad e => by cases e; exact l2, (hE.chg hc4 l2).trans hE5⟩
end Go.Proofs.YtppipmkpmmdcjaaGreat
namespace Go.Proofs.YtppipmkpmmdcjaaGreat
open Go.W Go.LM
set_option maxHeartbeats 2000000 in
theorem gO {la lb : List Nat} {a b : Option Addr} {c d : Nat} {w : World} (ha : Limbs w a c la) (hb : Limbs w b d lb) (hab : natOf lb ≤ natOf la) (cb : Canon lb) :
  CallsR Tryz.prog 50 #[.slice a la.length c, .slice b lb.length d] w fun v w' => ∃ ls, natOf ls = natOf la - natOf lb ∧ Canon ls ∧ RetN w ls v w' := by
 have hll : lb.length ≤ la.length := cR cb (Nat.lt_of_le_of_lt hab (bT ha.lim))
 have hlen := ha.len
 refine aH (args := [_, _]) Tryz.func50 rfl rfl ?_
 repeat' (first|refine eM rfl rfl (by omega) (by omega) (fun g w2 hn2 => ⟨fun _ _ => trivial, ?_⟩)|refine ai rfl ?_|refine aa ?_|refine aj ?_|refine ah rfl ?_|refine ae ?_|refine bh rfl ?_|refine aA ?_)
 have l2 := hn2.lo
 refine aY (ι := Nat × List Nat × Nat) [6, 7, 8, 14, 15, 16, 17, 18, 19, 20, 21, 22, 23, 24, 25, 26, 27, 28, 29, 30, 31, 32, 33, 34, 35, 36, 37, 38, 39, 40, 41, 42] (fun s => [(14, .int .i64 (s.1 : Int)), (6, .int .u64 (s.2.2 : Int))])
  (fun s w' => s.1 ≤ la.length ∧ Ex w w' ∧ Blk w' g 53 (limbsL s.2.1) ∧ s.2.1.length = la.length ∧ Lim s.2.1 ∧ s.2.2 ≤ 1 ∧ natOf s.2.1 + natOf (lb.take s.1) = natOf (la.take s.1) + s.2.2 * 4294967296 ^ s.1 ∧ ∀ j, s.1 ≤ j → s.2.1.getD j 0 = 0) (fun s => la.length - s.1)
  (0, List.replicate la.length 0, 0) ⟨rfl, rfl, trivial⟩ ⟨by simp, hn2.ex, hn2.blk, by simp, Lim.zeros _, by simp, by simp [cV, natOf], fun j _ => by simp [List.getD_eq_getElem?_getD, List.getElem?_replicate]; split <;> rfl⟩ ?_
 rintro ⟨i, S, br⟩ ξ2 w3 ⟨hi, hE, hbk, hSl, hSL, hbr, hN, hz⟩
 simp only at hi hbk hSl hSL hbr hN hz
 show CW _ _ _ _ (over [(14, .int .i64 (i : Int)), (6, .int .u64 (br : Int))] _) w3
 have hxa := ha.lim.getD i
 have hxb := hb.lim.getD i
 have zb : lb.length ≤ i → lb.getD i 0 = 0 := fun h => by rw [List.getD_eq_getElem?_getD, List.getElem?_eq_none h]; rfl
 have ha3 := ha.ext hE
 have hb3 := hb.ext hE
 have fin : ∀ (v br' : Nat) (w4 : World), i < la.length → (lb.getD i 0 + br ≤ la.getD i 0 ∧ v = la.getD i 0 - (lb.getD i 0 + br) ∧ br' = 0 ∨ la.getD i 0 < lb.getD i 0 + br ∧ v = 4294967296 + la.getD i 0 - (lb.getD i 0 + br) ∧ br' = 1) → Chg g w3 w4 → Blk w4 g 53 (limbsL (S.set i v)) →
   (i + 1 ≤ la.length ∧ Ex w w4 ∧ Blk w4 g 53 (limbsL (S.set i v)) ∧ (S.set i v).length = la.length ∧ Lim (S.set i v) ∧ br' ≤ 1 ∧ natOf (S.set i v) + natOf (lb.take (i + 1)) = natOf (la.take (i + 1)) + br' * 4294967296 ^ (i + 1) ∧ ∀ j, i + 1 ≤ j → (S.set i v).getD j 0 = 0) := by
  intro v br' w4 hii hv hc hb'
  refine ⟨by omega, hE.chg hc l2, hb', by simp [hSl], hSL.set (by omega), by omega, ?_, fun j hj => by rw [ct (by omega)]; exact hz j (by omega)⟩
  rw [bQ, bQ]
  have hst := rC (a := la.getD i 0) (x := lb.getD i 0) (show i < S.length by omega) (hz i (Nat.le_refl _)) hN
  rcases hv with ⟨h1, rfl, rfl⟩ | ⟨h1, rfl, rfl⟩
  ·rw [hst.1 h1, Nat.zero_mul]; rfl
  ·rw [hst.2 (by omega)]
 repeat' (first|(refine aC rfl rfl (ha3.sl.plain (by simp; omega)) (by omega) ?_)|refine bI rfl ha3.sl (by omega) ?_|(refine aC rfl rfl (hb3.sl.plain (by simp; omega)) (by omega) ?_)|refine bI rfl hb3.sl (by omega) ?_|refine gL rfl (by assumption) ?_|refine o9 rfl rfl (by omega) ?_|refine dD rfl ?_|refine fY (j := 63) rfl rfl (.inl rfl) ?_|refine aC rfl rfl ⟨_, _, rfl⟩ (by omega) ?_|refine dC rfl rfl hbk (by omega) (fun w4 hc4 hb4 => ⟨fun _ _ => trivial, ?_⟩)|refine ai rfl ?_|refine aa ?_|refine aj ?_|refine ah rfl ?_|refine ae ?_|refine bh rfl ?_|refine aZ rfl rfl (by omega) (by omega) ?_|refine aP rfl (fun hc => ?_) (fun hc => ?_)|refine aA ?_|refine aV ?_|refine aL ?_|refine aW ?_|refine aK ?_|refine aF ?_)
 ·rw [Nat.shiftRight_eq_div_pow]
  exact ⟨⟨(i + 1, _, _), fin _ _ w4 (by omega) (by dsimp only; omega) hc4 hb4, by simp only; omega, rfl, rfl, trivial⟩, (by (repeat (first|exact aE _ _ _|refine aw rfl ?_|refine au rfl ?_|refine ak rfl ?_|refine ao rfl ?_)))⟩
 ·rw [Nat.shiftRight_eq_div_pow]
  have hzb := zb (by omega)
  exact ⟨⟨(i + 1, _, _), fin _ _ w4 (by omega) (by dsimp only; omega) hc4 hb4, by simp only; omega, rfl, rfl, trivial⟩, (by (repeat (first|exact aE _ _ _|refine aw rfl ?_|refine au rfl ?_|refine ak rfl ?_|refine ao rfl ?_)))⟩
 ·have hi2 : i = la.length := by omega
  rw [bU (by omega), bU (by omega)] at hN
  have hlt : natOf S < 4294967296 ^ i := by rw [hi2, ← hSl]; exact bT hSL
  have hbr0 : br = 0 := by
   rcases Nat.eq_zero_or_pos br with h | h
   ·exact h
   ·have : br = 1 := by omega
    rw [this, Nat.one_mul] at hN
    omega
  rw [hbr0, Nat.zero_mul] at hN
  have hL := Limbs.of_blk (c := la.length) hbk (by omega) hSL (by omega)
  have hcall := cf hL
  rw [hSl] at hcall
  refine av hcall rfl ?_
  rintro v w5 ⟨rfl, hE5⟩
  refine ⟨fun _ _ => trivial, ?_⟩
  repeat' (first|refine ai rfl ?_|refine aa ?_|refine ae ?_|refine aR ?_)
  exact bK rfl (rt rfl) ⟨trimL S, by rw [bf]; omega, bD _, _, _, rfl, hL.trim.ext hE5, fun ad e => by cases e; exact l2, hE.trans hE5⟩
end Go.Proofs.YtppipmkpmmdcjaaGreat
namespace Go.Proofs.YtppipmkpmmdcjaaGreat
open Go.W Go.LM
theorem jQ {k : Nat} {v : Value} {x : Int} {w : World} (h1 : IntK k w v x) : CallsR Tryz.prog 19 #[v] w (RetZ w (-x)) := by
 obtain ⟨n1, a1, c1, l1, rfl, hL1, rfl, _⟩ := h1
 refine aH (args := [_]) Tryz.func19 rfl rfl ?_
 refine aj ?_
 refine ah rfl ?_
 refine bH rfl (fun g1 w1 hn1 => ⟨fun _ _ => trivial, ?_⟩)
 refine aB (fun g2 w2 hn2 => ⟨fun _ _ => trivial, ?_⟩)
 have hb1 := hn1.blk.ext hn2.ex
 have hb2 : Blk w2 g2 33 (intL false none 0 0) := hn2.blk
 have hE := hn1.ex.trans hn2.ex
 repeat' (first|refine aQ rfl hb1 rfl ?_|refine rb rfl ?_|refine aa ?_|refine aj ?_|refine ah rfl ?_|refine ae ?_|refine aG rfl ?_)
 refine av (bj (hL1.ext hE) _) rfl ?_
 rintro v w3 ⟨hI, hE3⟩
 obtain ⟨ng, a', c', ls, rfl, hI'⟩ := id hI
 refine ⟨fun _ _ => trivial, ?_⟩
 refine ax (n := 2) rfl rfl rfl rfl (hb2.ext hE3) rfl (fun w4 hc4 hb4 => ⟨fun _ _ => trivial, ?_⟩)
 repeat' (first|refine aa ?_|refine ae ?_|refine aR ?_)
 have l2 := hn2.lo
 have l2' := hn2.hi
 have s1 := hn1.ex.size
 refine bK rfl (rc rfl rfl hb4) ⟨?_, (hE.trans hE3).chg hc4 (by omega)⟩
 have hr := (hI.chg hc4 (by omega)).mono (lo' := w.heap.size) (by omega)
 have e : sgn (!n1) (natOf l1) = -sgn n1 (natOf l1) := by unfold sgn; cases n1 <;> simp
 rwa [e] at hr
theorem eo {k : Nat} {v : Value} {x : Int} {w : World} (h1 : IntK k w v x) : CallsR Tryz.prog 6 #[v] w fun r w' => r = .int .i64 x.sign ∧ Ex w w' := by
 obtain ⟨n1, a1, c1, l1, rfl, hL1, rfl, _⟩ := h1
 refine aH (args := [_]) Tryz.func6 rfl rfl ?_
 repeat' (first|refine bH rfl (fun g1 w1 hn1 => ⟨fun _ _ => trivial, ?_⟩)|refine aQ rfl hn1.blk rfl ?_|refine ai rfl ?_|refine aa ?_|refine aj ?_|refine ah rfl ?_|refine ae ?_|refine aG rfl ?_|refine aA ?_)
 refine av (cz (hL1.ext hn1.ex)) rfl ?_
 rintro v w2 ⟨a2, c2, rfl, hL2, hf2, hE2⟩
 refine ⟨fun _ _ => trivial, ?_⟩
 have hb2 := hn1.blk.ext hE2
 have hz : (trimL l1).length = 0 ↔ natOf l1 = 0 := by
  rw [← cE]
  exact List.length_eq_zero_iff
 repeat' (first|refine aQ rfl hb2 rfl ?_|refine ai rfl ?_|refine aa ?_|refine aj ?_|refine ah rfl ?_|refine ae ?_|refine bh rfl ?_|refine aG rfl ?_|refine aP rfl (fun hc => ?_) (fun hc => ?_)|refine fV rfl (fun hc => ?_) (fun hc => ?_)|refine aK ?_|refine aR ?_|refine bv ?_|refine cN ?_|refine aF ?_)
 ·refine bK rfl (rt rfl) ⟨?_, hn1.ex.trans hE2⟩
  have : natOf l1 = 0 := hz.1 (by omega)
  rw [this]; cases n1 <;> rfl
 ·refine bK rfl (rt rfl) ⟨?_, hn1.ex.trans hE2⟩
  have : natOf l1 ≠ 0 := fun e => by have := hz.2 e; omega
  subst_vars
  show Value.int .i64 (-1) = _
  rw [show (sgn true (natOf l1)).sign = -1 by unfold sgn; rw [if_pos rfl]; exact Int.sign_eq_neg_one_of_neg (by omega)]
 ·refine bK rfl (rt rfl) ⟨?_, hn1.ex.trans hE2⟩
  have : natOf l1 ≠ 0 := fun e => by have := hz.2 e; omega
  subst_vars
  show Value.int .i64 1 = _
  rw [show (sgn false (natOf l1)).sign = 1 by unfold sgn; rw [if_neg (by decide)]; exact Int.sign_eq_one_of_pos (by omega)]
theorem ka {m n : Nat} : 0 ≤ cmpZ m n ↔ n ≤ m := by
 unfold cmpZ
 split
 ·constructor <;> intro h <;> omega
 ·split
  ·constructor <;> intro h <;> omega
  ·constructor <;> intro h <;> omega
theorem gP {p q : Nat} {v1 v2 : Value} {x y : Int} {w : World} (h1 : IntK p w v1 x) (h2 : IntK q w v2 y) (hp : p < 17592186044416) (hq : q < 17592186044416) :
  CallsR Tryz.prog 37 #[v1, v2] w (RetZ w (x + y)) := by
 obtain ⟨n1, a1, c1, l1, rfl, hL1, rfl, hp1⟩ := h1
 obtain ⟨n2, a2, c2, l2, rfl, hL2, rfl, hq1⟩ := h2
 have tl1 := cI l1
 have tl2 := cI l2
 refine aH (args := [_, _]) Tryz.func37 rfl rfl ?_
 refine aj ?_
 refine ah rfl ?_
 refine bH rfl (fun g2 w2 hn2 => ⟨fun _ _ => trivial, ?_⟩)
 refine bH rfl (fun g3 w3 hn3 => ⟨fun _ _ => trivial, ?_⟩)
 refine aB (fun g4 w4 hn4 => ⟨fun _ _ => trivial, ?_⟩)
 have hb2 := (hn2.blk.ext hn3.ex).ext hn4.ex
 have hb3 := hn3.blk.ext hn4.ex
 have hb4 : Blk w4 g4 33 (intL false none 0 0) := hn4.blk
 have hE := (hn2.ex.trans hn3.ex).trans hn4.ex
 have l4 := hn4.lo
 have l4' := hn4.hi
 have s3 := (hn2.ex.trans hn3.ex).size
 have s4 := hE.size
 repeat' (first|refine aa ?_|refine aj ?_|refine ae ?_)
 refine bi (late := []) (plan := [(0, none), (1, none), (3, none), (4, none), (2, some true), (5, some true), (6, none), (7, none)]) (fun w' => Ex w4 w') bB (by kernel_rfl) (Ex.refl w4).drew ?_
 have hE4d : Ex w4 w4.drew := (Ex.refl w4).drew
 repeat' (first|refine aQ rfl (fun _ h => hb2.ext h) rfl ?_|refine aQ rfl (fun _ h => hb3.ext h) rfl ?_|refine aG rfl ?_)
 refine av (cz (hL1.ext (hE.trans hE4d))) rfl ?_
 rintro v w6 ⟨a6, c6, rfl, hL6, hf6, hE6⟩
 refine ⟨fun _ h => h.trans hE6, ?_⟩
 refine av (cz (hL2.ext ((hE.trans hE4d).trans hE6))) rfl ?_
 rintro v w7 ⟨a7, c7, rfl, hL7, hf7, hE7⟩
 refine ⟨fun _ h => h.trans hE7, ?_⟩
 have hE47 : Ex w4 w7 := (hE4d.trans hE6).trans hE7
 have hL67 := hL6.ext hE7
 have hb27 := hb2.ext hE47
 have hb37 := hb3.ext hE47
 have hE7d : Ex w7 w7.drew := (Ex.refl w7).drew
 have hE47d := hE47.trans hE7d
 have fin : ∀ {ng nn : Bool} {ls : List Nat} {m : Nat} {w9 w10 : World} {v : Value}, Ex w7 w9 → IntC w9.heap.size w10 v (sgn nn m) → Ex w9 w10 → ∀ w11, Chg g4 w10 w11 → sgn nn m = sgn n1 (natOf l1) + sgn n2 (natOf l2) → RetZ w (sgn n1 (natOf l1) + sgn n2 (natOf l2)) v w11 := by
  intro ng nn ls m w9 w10 v hE9 hI hE10 w11 hc11 he
  have s9 := (hE47.trans hE9).size
  refine ⟨?_, ((hE.trans hE47).trans (hE9.trans hE10)).chg hc11 (by omega)⟩
  rw [← he]
  exact (hI.chg hc11 (by omega)).mono (by omega)
 repeat' (first|refine aQ rfl hb27 rfl ?_|refine aQ rfl hb37 rfl ?_|refine ai rfl ?_|refine aa ?_|refine aj ?_|refine ah rfl ?_|refine ae ?_|refine aG rfl ?_|refine mK rfl rfl ?_|refine aP rfl (fun hc => ?_) (fun hc => ?_)|refine aF ?_)
 ·refine bi (late := [5, 6]) (plan := [(0, none), (1, none), (2, none), (3, none), (4, some true), (5, some false), (6, some false)]) (fun w' => Ex w7 w') bB (by kernel_rfl) hE7d ?_
  repeat' (first|refine aQ rfl (fun _ h => hb27.ext h) rfl ?_|refine ai rfl ?_|refine aG rfl ?_)
  refine av (nP (hL67.ext hE7d) (hL7.ext hE7d) (by omega) (by omega)) rfl ?_
  rintro v w9 ⟨ls, a9, c9, rfl, hL9, hv9, hE9⟩
  refine ⟨fun _ h => h.trans hE9, ?_⟩
  skip
  refine av (bj hL9 _) rfl ?_
  rintro v w10 ⟨hI, hE10⟩
  obtain ⟨ng, a', c', ls', rfl, hI'⟩ := id hI
  refine ⟨fun _ h => h.trans hE10, ?_⟩
  refine ax (n := 2) rfl rfl rfl rfl (hb4.ext ((hE47d.trans hE9).trans hE10)) rfl (fun w11 hc11 hb11 => ⟨fun h => (nomatch h), ?_⟩)
  repeat' (first|refine aa ?_|refine ae ?_|refine aR ?_|refine bv ?_)
  refine bK rfl (rc rfl rfl hb11) (fin (ng := ng) (ls := ls) (hE7d.trans hE9) hI hE10 w11 hc11 ?_)
  have hv : natOf ls = natOf l1 + natOf l2 := by rw [show natOf ls = _ from hv9, bf, bf]
  rw [hv]; subst_vars; unfold sgn; split <;> omega
 ·refine av (gM hL67 hL7 (bD _) (bD _)) rfl ?_
  rintro v w8 ⟨rfl, hE8⟩
  refine ⟨fun _ _ => trivial, ?_⟩
  have hE8d := hE8.drew
  have hE48d := hE47.trans hE8d
  rw [bf, bf]
  have hge := ka (m := natOf l1) (n := natOf l2)
  repeat' (first|refine ai rfl ?_|refine aa ?_|refine aj ?_|refine ae ?_|refine aP rfl (fun hc => ?_) (fun hc => ?_)|refine aF ?_)
  ·refine bi (late := [5, 6]) (plan := [(0, none), (1, none), (2, none), (3, none), (4, some true), (5, some false), (6, some false)]) (fun w' => Ex w7 w') bB (by kernel_rfl) hE8d ?_
   repeat' (first|refine aQ rfl (fun _ h => hb27.ext h) rfl ?_|refine ai rfl ?_|refine aG rfl ?_)
   refine av (dU (hL67.ext hE8d) (hL7.ext hE8d) (by rw [bf, bf]; omega) (bD _) (bD _)) rfl ?_
   rintro v w9 ⟨ls, a9, c9, rfl, hL9, hv9, hE9⟩
   refine ⟨fun _ h => h.trans hE9, ?_⟩
   skip
   refine av (bj hL9 _) rfl ?_
   rintro v w10 ⟨hI, hE10⟩
   obtain ⟨ng, a', c', ls', rfl, hI'⟩ := id hI
   refine ⟨fun _ h => h.trans hE10, ?_⟩
   refine ax (n := 2) rfl rfl rfl rfl (hb4.ext ((hE48d.trans hE9).trans hE10)) rfl (fun w11 hc11 hb11 => ⟨fun h => (nomatch h), ?_⟩)
   repeat' (first|refine aa ?_|refine ae ?_|refine aR ?_|refine bv ?_)
   refine bK rfl (rc rfl rfl hb11) (fin (ng := ng) (ls := ls) (hE8d.trans hE9) hI hE10 w11 hc11 ?_)
   have hv : natOf ls = natOf l1 - natOf l2 := by rw [show natOf ls = _ from hv9, bf, bf]
   rw [hv]; unfold sgn; cases n1 <;> cases n2 <;> simp at * <;> omega
  ·refine bi (late := [5, 6]) (plan := [(0, none), (1, none), (2, none), (3, none), (4, some true), (5, some false), (6, some false)]) (fun w' => Ex w7 w') bB (by kernel_rfl) hE8d ?_
   repeat' (first|refine aQ rfl (fun _ h => hb37.ext h) rfl ?_|refine ai rfl ?_|refine aG rfl ?_)
   refine av (dU (hL7.ext hE8d) (hL67.ext hE8d) (by rw [bf, bf]; omega) (bD _) (bD _)) rfl ?_
   rintro v w9 ⟨ls, a9, c9, rfl, hL9, hv9, hE9⟩
   refine ⟨fun _ h => h.trans hE9, ?_⟩
   skip
   refine av (bj hL9 _) rfl ?_
   rintro v w10 ⟨hI, hE10⟩
   obtain ⟨ng, a', c', ls', rfl, hI'⟩ := id hI
   refine ⟨fun _ h => h.trans hE10, ?_⟩
   refine ax (n := 2) rfl rfl rfl rfl (hb4.ext ((hE48d.trans hE9).trans hE10)) rfl (fun w11 hc11 hb11 => ⟨fun h => (nomatch h), ?_⟩)
   repeat' (first|refine aa ?_|refine ae ?_|refine aR ?_)
   refine bK rfl (rc rfl rfl hb11) (fin (ng := ng) (ls := ls) (hE8d.trans hE9) hI hE10 w11 hc11 ?_)
   have hv : natOf ls = natOf l2 - natOf l1 := by rw [show natOf ls = _ from hv9, bf, bf]
   rw [hv]; unfold sgn; cases n1 <;> cases n2 <;> simp at * <;> omega
theorem nQ {a b : Nat} (h : a ≤ b) : (4294967296 : Nat) ^ a ≤ 4294967296 ^ b := Nat.pow_le_pow_right (by decide) h
theorem jS {p q : Nat} {v1 v2 : Value} {x y : Int} {w : World} (h1 : IntK p w v1 x) (h2 : IntK q w v2 y) (hp : p < 17592186044416) (hq : q < 17592186044416) :
  CallsR Tryz.prog 18 #[v1, v2] w (RetZ w (x - y)) := by
 obtain ⟨vs1, rfl, hvl1, hvo1⟩ := h1.out
 obtain ⟨vs2, rfl, hvl2, hvo2⟩ := h2.out
 refine aH (args := [_, _]) Tryz.func18 rfl rfl ?_
 refine aj ?_
 refine ah rfl ?_
 refine bH rfl (fun g2 w2 hn2 => ⟨fun _ _ => trivial, ?_⟩)
 refine bH rfl (fun g3 w3 hn3 => ⟨fun _ _ => trivial, ?_⟩)
 refine aB (fun g4 w4 hn4 => ⟨fun _ _ => trivial, ?_⟩)
 have hb2 := (hn2.blk.ext hn3.ex).ext hn4.ex
 have hb3 := hn3.blk.ext hn4.ex
 have hb4 : Blk w4 g4 33 (intL false none 0 0) := hn4.blk
 have hE := (hn2.ex.trans hn3.ex).trans hn4.ex
 have l4 := hn4.lo
 have l4' := hn4.hi
 have s3 := (hn2.ex.trans hn3.ex).size
 have s4 := hE.size
 repeat' (first|refine aa ?_|refine aj ?_|refine ae ?_)
 have hE4d : Ex w4 w4.drew := (Ex.refl w4).drew
 refine bi (late := [4]) (plan := [(0, none), (1, none), (2, some true), (3, some true), (4, some false)]) (fun w' => Ex w4 w') bB (by kernel_rfl) hE4d ?_
 repeat' (first|refine aN rfl (fun _ h => hb2.ext h) hvl1 ?_|refine aN rfl (fun _ h => hb3.ext h) hvl2 ?_)
 refine av (jQ (h2.ext (hE.trans hE4d))) rfl ?_
 rintro v w5 ⟨hI5, hE5⟩
 refine ⟨fun _ h => h.trans hE5, ?_⟩
 skip
 have hlt : (-y).natAbs < 4294967296 ^ q := by rw [Int.natAbs_neg]; exact h2.lt
 refine av (gP (h1.ext ((hE.trans hE4d).trans hE5)) (hI5.k hlt) hp hq) rfl ?_
 rintro v w6 ⟨hI6, hE6⟩
 obtain ⟨vs6, rfl, hvl6, hvo6⟩ := hI6.out
 refine ⟨fun _ h => h.trans hE6, ?_⟩
 refine ax (n := 2) rfl rfl hvl6 hvo6 (hb4.ext ((hE4d.trans hE5).trans hE6)) rfl (fun w7 hc7 hb7 => ⟨fun h => (nomatch h), ?_⟩)
 repeat' (first|refine aa ?_|refine ae ?_|refine aR ?_)
 have s5 := (hE4d.trans hE5).size
 refine bK rfl (rc rfl hvl6 hb7) ⟨?_, ((hE.trans ((hE4d.trans hE5).trans hE6))).chg hc7 (by omega)⟩
 have := (hI6.chg hc7 (by omega)).mono (lo' := w.heap.size) (by omega)
 rwa [← Int.sub_eq_add_neg] at this
end Go.Proofs.YtppipmkpmmdcjaaGreat
namespace Go.Proofs.YtppipmkpmmdcjaaGreat
open Go.W Go.LM
theorem bP {k : Nat} {v : Value} {x : Int} {w : World} (h1 : IntK k w v x) : CallsR Tryz.prog 28 #[v] w fun r w' => r = .int .i64 x.sign ∧ Ex w w' := by
 obtain ⟨n1, a1, c1, l1, rfl, hL1, rfl, _⟩ := h1
 refine aH (args := [_]) Tryz.func28 rfl rfl ?_
 repeat' (first|refine bH rfl (fun g1 w1 hn1 => ⟨fun _ _ => trivial, ?_⟩)|refine aQ rfl hn1.blk rfl ?_|refine ai rfl ?_|refine aa ?_|refine aj ?_|refine ah rfl ?_|refine ae ?_|refine aG rfl ?_|refine aA ?_)
 refine av (cf (hL1.ext hn1.ex)) rfl ?_
 rintro v w2 ⟨rfl, hE2⟩
 refine ⟨fun _ _ => trivial, ?_⟩
 have hb2 := hn1.blk.ext hE2
 have hz : (trimL l1).length = 0 ↔ natOf l1 = 0 := by
  rw [← cE]
  exact List.length_eq_zero_iff
 repeat' (first|refine aQ rfl hb2 rfl ?_|refine ai rfl ?_|refine aa ?_|refine aj ?_|refine ah rfl ?_|refine ae ?_|refine bh rfl ?_|refine aG rfl ?_|refine aP rfl (fun hc => ?_) (fun hc => ?_)|refine fV rfl (fun hc => ?_) (fun hc => ?_)|refine aK ?_|refine aR ?_|refine bv ?_|refine cN ?_|refine aF ?_)
 ·refine bK rfl (rt rfl) ⟨?_, hn1.ex.trans hE2⟩
  have : natOf l1 = 0 := hz.1 (by omega)
  rw [this]; cases n1 <;> rfl
 ·refine bK rfl (rt rfl) ⟨?_, hn1.ex.trans hE2⟩
  have : natOf l1 ≠ 0 := fun e => by have := hz.2 e; omega
  subst_vars
  show Value.int .i64 (-1) = _
  rw [show (sgn true (natOf l1)).sign = -1 by unfold sgn; rw [if_pos rfl]; exact Int.sign_eq_neg_one_of_neg (by omega)]
 ·refine bK rfl (rt rfl) ⟨?_, hn1.ex.trans hE2⟩
  have : natOf l1 ≠ 0 := fun e => by have := hz.2 e; omega
  subst_vars
  show Value.int .i64 1 = _
  rw [show (sgn false (natOf l1)).sign = 1 by unfold sgn; rw [if_neg (by decide)]; exact Int.sign_eq_one_of_pos (by omega)]
theorem gQ {n1 n2 : Bool} {la lb : List Nat} {a b : Option Addr} {c d : Nat} {w : World} (ha : Limbs w a c la) (hb : Limbs w b d lb) (ca : Canon la) (cb : Canon lb) (hla : la.length < 17592186044416) (hlb : lb.length < 17592186044416) :
  CallsR Tryz.prog 52 #[.bool n1, .slice a la.length c, .bool n2, .slice b lb.length d] w (RetZ w (sgn n1 (natOf la) + sgn n2 (natOf lb))) := by
 refine aH (args := [_, _, _, _]) Tryz.func52 rfl rfl ?_
 refine aj ?_
 refine ah rfl ?_
 refine aB (fun g w1 hn1 => ⟨fun _ _ => trivial, ?_⟩)
 have hb1 : Blk w1 g 33 (intL false none 0 0) := hn1.blk
 have l1 := hn1.lo
 have l1' := hn1.hi
 have ha1 := ha.ext hn1.ex
 have hbb1 := hb.ext hn1.ex
 have s1 := hn1.ex.size
 have fin : ∀ {nn : Bool} {m : Nat} {wa wb wc : World} {v : Value}, Ex w1 wa → IntC w1.heap.size wb v (sgn nn m) → Ex wa wb → Chg g wb wc → sgn nn m = sgn n1 (natOf la) + sgn n2 (natOf lb) → RetZ w (sgn n1 (natOf la) + sgn n2 (natOf lb)) v wc := by
  intro nn m wa wb wc v hEa hI hEb hc he
  refine ⟨?_, ((hn1.ex.trans hEa).trans hEb).chg hc l1⟩
  rw [← he]
  exact (hI.chg hc (by omega)).mono s1
 repeat' (first|refine ai rfl ?_|refine aa ?_|refine aj ?_|refine ah rfl ?_|refine ae ?_|refine mK rfl rfl ?_|refine aP rfl (fun hc => ?_) (fun hc => ?_)|refine aA ?_)
 ·refine av (jP ha1 hbb1 hla hlb) rfl ?_
  rintro v w2 ⟨ls, hv, hcn, a2, c2, rfl, hL2, hf2, hE2⟩
  refine ⟨fun _ _ => trivial, ?_⟩
  refine av (cF hL2 hcn hf2 _) rfl ?_
  rintro v w3 ⟨hI, hE3⟩
  obtain ⟨vs, rfl, hvl, hvo⟩ := hI.out
  refine ⟨fun _ _ => trivial, ?_⟩
  refine ax (n := 2) rfl rfl hvl hvo (hb1.ext (hE2.trans hE3)) rfl (fun w4 hc4 hb4 => ⟨fun _ _ => trivial, ?_⟩)
  repeat' (first|refine aa ?_|refine ae ?_|refine aR ?_|refine bv ?_|refine cN ?_)
  refine bK rfl (rc rfl hvl hb4) (fin hE2 hI hE3 hc4 ?_)
  rw [hv]; subst_vars; unfold sgn; split <;> omega
 ·refine av (dP ha1 hbb1 ca cb) rfl ?_
  rintro v w2 ⟨rfl, hE2⟩
  refine ⟨fun _ _ => trivial, ?_⟩
  have hge := ka (m := natOf la) (n := natOf lb)
  repeat' (first|refine ai rfl ?_|refine aa ?_|refine aj ?_|refine ah rfl ?_|refine ae ?_|refine aP rfl (fun hc => ?_) (fun hc => ?_)|refine aK ?_|refine aF ?_)
  ·refine av (gO (ha1.ext hE2) (hbb1.ext hE2) (by omega) cb) rfl ?_
   rintro v w3 ⟨ls, hv, hcn, a3, c3, rfl, hL3, hf3, hE3⟩
   refine ⟨fun _ _ => trivial, ?_⟩
   refine av (cF hL3 hcn hf3 _) rfl ?_
   rintro v w4 ⟨hI, hE4⟩
   obtain ⟨vs, rfl, hvl, hvo⟩ := hI.out
   refine ⟨fun _ _ => trivial, ?_⟩
   refine ax (n := 2) rfl rfl hvl hvo (hb1.ext ((hE2.trans hE3).trans hE4)) rfl (fun w5 hc5 hb5 => ⟨fun _ _ => trivial, ?_⟩)
   repeat' (first|refine aa ?_|refine ae ?_|refine aR ?_|refine bv ?_|refine cN ?_)
   refine bK rfl (rc rfl hvl hb5) (fin (hE2.trans hE3) (hI.mono hE2.size) hE4 hc5 ?_)
   rw [hv]; unfold sgn; cases n1 <;> cases n2 <;> simp at * <;> omega
  ·refine av (gO (hbb1.ext hE2) (ha1.ext hE2) (by omega) ca) rfl ?_
   rintro v w3 ⟨ls, hv, hcn, a3, c3, rfl, hL3, hf3, hE3⟩
   refine ⟨fun _ _ => trivial, ?_⟩
   refine av (cF hL3 hcn hf3 _) rfl ?_
   rintro v w4 ⟨hI, hE4⟩
   obtain ⟨vs, rfl, hvl, hvo⟩ := hI.out
   refine ⟨fun _ _ => trivial, ?_⟩
   refine ax (n := 2) rfl rfl hvl hvo (hb1.ext ((hE2.trans hE3).trans hE4)) rfl (fun w5 hc5 hb5 => ⟨fun _ _ => trivial, ?_⟩)
   repeat' (first|refine aa ?_|refine ae ?_|refine aR ?_)
   refine bK rfl (rc rfl hvl hb5) (fin (hE2.trans hE3) (hI.mono hE2.size) hE4 hc5 ?_)
   rw [hv]; unfold sgn; cases n1 <;> cases n2 <;> simp at * <;> omega
end Go.Proofs.YtppipmkpmmdcjaaGreat
namespace Go.Proofs.YtppipmkpmmdcjaaGreat
open Go.W Go.LM
theorem eg {p q : Nat} {v1 v2 : Value} {x y : Int} {w : World} (h1 : IntK p w v1 x) (h2 : IntK q w v2 y) (hp : p < 17592186044416) (hq : q < 17592186044416) :
  CallsR Tryz.prog 90 #[v1, v2] w (RetZ w (x + y)) := by
 obtain ⟨n1, a1, c1, l1, rfl, hL1, rfl, hp1⟩ := h1
 obtain ⟨n2, a2, c2, l2, rfl, hL2, rfl, hq1⟩ := h2
 have tl1 := cI l1
 have tl2 := cI l2
 refine aH (args := [_, _]) Tryz.func90 rfl rfl ?_
 refine aj ?_
 refine ah rfl ?_
 refine bH rfl (fun g2 w2 hn2 => ⟨fun _ _ => trivial, ?_⟩)
 refine bH rfl (fun g3 w3 hn3 => ⟨fun _ _ => trivial, ?_⟩)
 refine aB (fun g4 w4 hn4 => ⟨fun _ _ => trivial, ?_⟩)
 have hb2 := (hn2.blk.ext hn3.ex).ext hn4.ex
 have hb3 := hn3.blk.ext hn4.ex
 have hb4 : Blk w4 g4 33 (intL false none 0 0) := hn4.blk
 have hE := (hn2.ex.trans hn3.ex).trans hn4.ex
 have l4 := hn4.lo
 have l4' := hn4.hi
 have s3 := (hn2.ex.trans hn3.ex).size
 have s4 := hE.size
 repeat' (first|refine aa ?_|refine aj ?_|refine ae ?_)
 have hE4d : Ex w4 w4.drew := (Ex.refl w4).drew
 refine bi (late := [11]) (plan := [(0, none), (1, none), (2, none), (3, none), (5, none), (6, none), (7, none), (8, none), (4, some true), (9, some true), (10, some true), (11, some false)]) (fun w' => Ex w4 w') bB (by kernel_rfl) hE4d ?_
 repeat' (first|refine aQ rfl (fun _ h => hb2.ext h) rfl ?_|refine aQ rfl (fun _ h => hb3.ext h) rfl ?_|refine aG rfl ?_)
 refine av (cf (hL1.ext (hE.trans hE4d))) rfl ?_
 rintro v w6 ⟨rfl, hE6⟩
 refine ⟨fun _ h => h.trans hE6, ?_⟩
 skip
 refine av (cf (hL2.ext ((hE.trans hE4d).trans hE6))) rfl ?_
 rintro v w7 ⟨rfl, hE7⟩
 refine ⟨fun _ h => h.trans hE7, ?_⟩
 have hE47 : Ex w4 w7 := (hE4d.trans hE6).trans hE7
 skip
 refine av (gQ ((hL1.ext (hE.trans hE47)).trim) ((hL2.ext (hE.trans hE47)).trim) (bD _) (bD _) (by omega) (by omega)) rfl ?_
 rintro v w8 ⟨hI8, hE8⟩
 obtain ⟨vs8, rfl, hvl8, hvo8⟩ := hI8.out
 refine ⟨fun _ h => h.trans hE8, ?_⟩
 refine ax (n := 2) rfl rfl hvl8 hvo8 (hb4.ext (hE47.trans hE8)) rfl (fun w9 hc9 hb9 => ⟨fun h => (nomatch h), ?_⟩)
 repeat' (first|refine aa ?_|refine ae ?_|refine aR ?_)
 have s7 := hE47.size
 refine bK rfl (rc rfl hvl8 hb9) ⟨?_, (hE.trans (hE47.trans hE8)).chg hc9 (by omega)⟩
 have hr := (hI8.chg hc9 (by omega)).mono (lo' := w.heap.size) (by omega)
 rw [bf, bf] at hr
 exact hr
theorem eh {p q : Nat} {v1 v2 : Value} {x y : Int} {w : World} (h1 : IntK p w v1 x) (h2 : IntK q w v2 y) (hp : p < 17592186044416) (hq : q < 17592186044416) :
  CallsR Tryz.prog 29 #[v1, v2] w (RetZ w (x - y)) := by
 obtain ⟨n1, a1, c1, l1, rfl, hL1, rfl, hp1⟩ := h1
 obtain ⟨n2, a2, c2, l2, rfl, hL2, rfl, hq1⟩ := h2
 have tl1 := cI l1
 have tl2 := cI l2
 refine aH (args := [_, _]) Tryz.func29 rfl rfl ?_
 refine aj ?_
 refine ah rfl ?_
 refine bH rfl (fun g2 w2 hn2 => ⟨fun _ _ => trivial, ?_⟩)
 refine bH rfl (fun g3 w3 hn3 => ⟨fun _ _ => trivial, ?_⟩)
 refine aB (fun g4 w4 hn4 => ⟨fun _ _ => trivial, ?_⟩)
 have hb2 := (hn2.blk.ext hn3.ex).ext hn4.ex
 have hb3 := hn3.blk.ext hn4.ex
 have hb4 : Blk w4 g4 33 (intL false none 0 0) := hn4.blk
 have hE := (hn2.ex.trans hn3.ex).trans hn4.ex
 have l4 := hn4.lo
 have l4' := hn4.hi
 have s3 := (hn2.ex.trans hn3.ex).size
 have s4 := hE.size
 repeat' (first|refine aa ?_|refine aj ?_|refine ae ?_)
 have hE4d : Ex w4 w4.drew := (Ex.refl w4).drew
 refine bi (late := [12]) (plan := [(0, none), (1, none), (2, none), (3, none), (5, none), (6, none), (7, none), (8, none), (9, none), (4, some true), (10, some true), (11, some true), (12, some false)]) (fun w' => Ex w4 w') bB (by kernel_rfl) hE4d ?_
 repeat' (first|refine rb rfl ?_|refine aQ rfl (fun _ h => hb2.ext h) rfl ?_|refine aQ rfl (fun _ h => hb3.ext h) rfl ?_|refine aG rfl ?_)
 refine av (cf (hL1.ext (hE.trans hE4d))) rfl ?_
 rintro v w6 ⟨rfl, hE6⟩
 refine ⟨fun _ h => h.trans hE6, ?_⟩
 skip
 refine av (cf (hL2.ext ((hE.trans hE4d).trans hE6))) rfl ?_
 rintro v w7 ⟨rfl, hE7⟩
 refine ⟨fun _ h => h.trans hE7, ?_⟩
 have hE47 : Ex w4 w7 := (hE4d.trans hE6).trans hE7
 skip
 refine av (gQ ((hL1.ext (hE.trans hE47)).trim) ((hL2.ext (hE.trans hE47)).trim) (bD _) (bD _) (by omega) (by omega)) rfl ?_
 rintro v w8 ⟨hI8, hE8⟩
 obtain ⟨vs8, rfl, hvl8, hvo8⟩ := hI8.out
 refine ⟨fun _ h => h.trans hE8, ?_⟩
 refine ax (n := 2) rfl rfl hvl8 hvo8 (hb4.ext (hE47.trans hE8)) rfl (fun w9 hc9 hb9 => ⟨fun h => (nomatch h), ?_⟩)
 repeat' (first|refine aa ?_|refine ae ?_|refine aR ?_)
 have s7 := hE47.size
 refine bK rfl (rc rfl hvl8 hb9) ⟨?_, (hE.trans (hE47.trans hE8)).chg hc9 (by omega)⟩
 have hr := (hI8.chg hc9 (by omega)).mono (lo' := w.heap.size) (by omega)
 rw [bf, bf] at hr
 have e : sgn (!n2) (natOf l2) = -sgn n2 (natOf l2) := by unfold sgn; cases n2 <;> simp
 rw [e, ← Int.sub_eq_add_neg] at hr
 exact hr
end Go.Proofs.YtppipmkpmmdcjaaGreat
namespace Go.W
section
variable {P : Program} {S : World → Prop} {ops : List Oper} {K : Env → World → Prop} {rest : List (Oper × Option Bool)} {ρ : Env} {w : World} {b : Option Bool} {kf : Bool} {d : Nat} {dst : Option Nat} {T T' : TypeId} {pos : String} {af : Array Edge}
theorem fg {op : BinOp} {t : TypeId} {x y : Operand} {a a' : Option Addr} {l c l' c' : Nat} (w : World) : (eqGuard op t x y (.slice a l c) (.slice a' l' c')).run P w = .ok () w := by
 unfold eqGuard; cases op <;> rfl
theorem ju {T0 E : TypeId} (h : P.underlying T0 = some (.slice E)) (n : Nat) (a : Option Addr) (l c : Nat) (w : World) : (Op.equalIn (n + 1) T0 (.slice a l c) (.slice none 0 0)).run P w = .ok a.isNone w := by
 cases a <;> simp [Op.equalIn, run_underlying h]
theorem gR {T0 E : TypeId} (h : P.underlying T0 = some (.slice E)) (a : Option Addr) (l c : Nat) (w : World) : (Op.equal T0 (.slice a l c) (.slice none 0 0)).run P w = .ok a.isNone w := by
 unfold Op.equal
 exact ju h 9999 a l c w
theorem kL {x y : Operand} {a : Option Addr} {l c E s z : Nat} {T'' : TypeId} [h1 : Slc P T' E s z] (hx : ev ρ x = .slice a l c) (hy : ev ρ y = .slice none 0 0) (h : RR P S ops K rest (upd ρ d (.bool a.isNone)) w) : RR P S ops K ((⟨some d, .binOp .eql T' x y T'', T, pos, af, none⟩, b) :: rest) ρ w :=
 cg rfl (fun w' => by
  simp only [execOp, hx, hy]
  rw [Sem.run_bind_ok (v := .bool a.isNone) (w' := w')]
  ·rfl
  ·rw [Sem.run_bind_ok (fg w')]
   show (do pure (Value.bool (← Op.equal T' (.slice a l c) (.slice none 0 0))) : Sem Value).run P w' = _
   rw [Sem.run_bind_ok (gR h1.un a l c w')]; rfl) h
theorem pV {T1 E y : Nat} {z : Value} [hT : Slc P T1 E 1 y] [hz : Zro P E z] (h : ∀ g w', New w w' g E [] → (kf = true → S w → S w') ∧ RR P S ops K rest (upd ρ d (.slice (some ⟨g, 0, none⟩) 0 0)) w') :
  RR P S ops K ((⟨some d, .buildSlice T1 0 #[], T, pos, af, none⟩, some kf) :: rest) ρ w :=
 fL (E := E) (s := 1) (z := z) (cs := #[]) rfl (by simp [Instr.fill]) h
end
end Go.W
namespace Go.Proofs.YtppipmkpmmdcjaaGreat
open Go.W Go.LM
theorem gS {ls : List Nat} {a : Option Addr} {c : Nat} {w : World} (h : Limbs w a c ls) : CallsR Tryz.prog 78 #[.slice a ls.length c] w (RetN w ls) := by
 have hlen := h.len
 refine aH (args := [_]) Tryz.func78 rfl rfl ?_
 cases a with
 | none =>
  have hl : ls = [] := by
   rcases Nat.eq_zero_or_pos ls.length with h0 | h0
   ·exact List.eq_nil_of_length_eq_zero h0
   ·obtain ⟨g, o, e⟩ := h.sl.plain (by simpa using h0); cases e
  subst hl
  repeat' (first|refine kL rfl rfl ?_|refine ai rfl ?_|refine aa ?_|refine aj ?_|refine ah rfl ?_|refine ae ?_|refine aD rfl ?_|refine aR ?_|refine bv ?_)
  exact bK rfl (rt rfl) ⟨none, 0, rfl, Limbs.nil _ _ _, fun ad e => (nomatch e), Ex.refl _⟩
 | some ad =>
  repeat' (first|refine kL rfl rfl ?_|refine pV (fun g w1 hn1 => ⟨fun _ _ => trivial, ?_⟩)|refine ai rfl ?_|refine aa ?_|refine aj ?_|refine ah rfl ?_|refine ae ?_|refine ay rfl ?_|refine aF ?_)
  have hs1 := h.sl.ext hn1.ex
  rcases Nat.eq_zero_or_pos ls.length with h0 | h0
  ·have hl : ls = [] := List.eq_nil_of_length_eq_zero h0
   subst hl
   refine lO rfl rfl (Nat.le_refl _) ?_
   repeat' (first|refine ai rfl ?_|refine aa ?_|refine ae ?_|refine aR ?_)
   exact bK rfl (rt rfl) ⟨some ⟨g, 0, none⟩, 0, rfl, Limbs.nil _ _ _, fun ad e => by cases e; exact hn1.lo, hn1.ex⟩
  ·refine gI (z := .int .u32 0) (s := 1) (vs := []) (lo := w.heap.size) (news := limbsL ls) rfl rfl rfl rfl (hn1.blk.own rfl (Nat.zero_le _) hn1.lo) hs1 (h.sl.plain (by simp; omega)) (by simp) (mM (fun _ => rfl) _) (by omega) (by omega) hn1.ex.size ?_
   intro a' c' w2 ho hg hA
   refine ⟨fun _ _ => trivial, ?_⟩
   rw [Nat.zero_add] at ho ⊢
   have hE : Ex w w2 := iP hg hn1.ex (by rintro _ ⟨⟩; exact hn1.lo)
   repeat' (first|refine ai rfl ?_|refine aa ?_|refine ae ?_|refine aR ?_)
   exact bK rfl (rt rfl) ⟨a', c', rfl, ⟨ho.sl, ho.cap, h.lim, h.len⟩, fun ad e => (ho.lo ad e).1, hE⟩
end Go.Proofs.YtppipmkpmmdcjaaGreat
namespace Go.Proofs.YtppipmkpmmdcjaaGreat
open Go.W Go.LM
theorem dy {k : Nat} {v : Value} {x : Int} {w : World} (h1 : IntK k w v x) : CallsR Tryz.prog 87 #[v] w (RetZ w (-x)) := by
 obtain ⟨n1, a1, c1, l1, rfl, hL1, rfl, _⟩ := h1
 refine aH (args := [_]) Tryz.func87 rfl rfl ?_
 refine aj ?_
 refine ah rfl ?_
 refine bH rfl (fun g1 w1 hn1 => ⟨fun _ _ => trivial, ?_⟩)
 refine aB (fun g2 w2 hn2 => ⟨fun _ _ => trivial, ?_⟩)
 have hb1 := hn1.blk.ext hn2.ex
 have hb2 : Blk w2 g2 33 (intL false none 0 0) := hn2.blk
 have hE := hn1.ex.trans hn2.ex
 have l2 := hn2.lo
 have l2' := hn2.hi
 have s1 := hn1.ex.size
 repeat' (first|refine aa ?_|refine aj ?_|refine ae ?_)
 have hEd : Ex w2 w2.drew := (Ex.refl w2).drew
 refine bi (late := [8]) (plan := [(0, none), (1, none), (2, none), (3, none), (4, none), (5, some true), (6, some true), (7, some true), (8, some false)]) (fun w' => Ex w2 w') bB (by kernel_rfl) hEd ?_
 repeat' (first|refine aQ rfl (fun _ h => hb1.ext h) rfl ?_|refine rb rfl ?_|refine aG rfl ?_)
 refine av (cf (hL1.ext (hE.trans hEd))) rfl ?_
 rintro v w3 ⟨rfl, hE3⟩
 refine ⟨fun _ h => h.trans hE3, ?_⟩
 skip
 refine av (gS ((hL1.ext ((hE.trans hEd).trans hE3)).trim)) rfl ?_
 rintro v w4 ⟨a4, c4, rfl, hL4, hf4, hE4⟩
 refine ⟨fun _ h => h.trans hE4, ?_⟩
 skip
 refine av (cF hL4 (bD _) hf4 _) rfl ?_
 rintro v w5 ⟨hI, hE5⟩
 obtain ⟨vs, rfl, hvl, hvo⟩ := hI.out
 refine ⟨fun _ h => h.trans hE5, ?_⟩
 have hE25 := ((hEd.trans hE3).trans hE4).trans hE5
 refine ax (n := 2) rfl rfl hvl hvo (hb2.ext hE25) rfl (fun w6 hc6 hb6 => ⟨fun h => (nomatch h), ?_⟩)
 repeat' (first|refine aa ?_|refine ae ?_|refine aR ?_)
 have s3 := (hEd.trans hE3).size
 refine bK rfl (rc rfl hvl hb6) ⟨?_, (hE.trans hE25).chg hc6 (by omega)⟩
 have hr := (hI.chg hc6 (by omega)).mono (lo' := w.heap.size) (by omega)
 rw [bf] at hr
 have e : sgn (!n1) (natOf l1) = -sgn n1 (natOf l1) := by unfold sgn; cases n1 <;> simp
 rwa [e] at hr
theorem dQ {k : Nat} {v : Value} {x : Int} {w : World} (h1 : IntK k w v x) : CallsR Tryz.prog 57 #[v] w (RetZ w x) := by
 obtain ⟨n1, a1, c1, l1, rfl, hL1, rfl, _⟩ := h1
 refine aH (args := [_]) Tryz.func57 rfl rfl ?_
 refine aj ?_
 refine ah rfl ?_
 refine bH rfl (fun g1 w1 hn1 => ⟨fun _ _ => trivial, ?_⟩)
 refine aB (fun g2 w2 hn2 => ⟨fun _ _ => trivial, ?_⟩)
 have hb1 := hn1.blk.ext hn2.ex
 have hb2 : Blk w2 g2 33 (intL false none 0 0) := hn2.blk
 have hE := hn1.ex.trans hn2.ex
 have l2 := hn2.lo
 have l2' := hn2.hi
 have s1 := hn1.ex.size
 repeat' (first|refine aa ?_|refine aj ?_|refine ae ?_)
 have hEd : Ex w2 w2.drew := (Ex.refl w2).drew
 refine bi (late := [7]) (plan := [(0, none), (1, none), (2, none), (3, none), (4, some true), (5, some true), (6, some true), (7, some false)]) (fun w' => Ex w2 w') bB (by kernel_rfl) hEd ?_
 repeat' (first|refine aQ rfl (fun _ h => hb1.ext h) rfl ?_|refine aG rfl ?_)
 refine av (cf (hL1.ext (hE.trans hEd))) rfl ?_
 rintro v w3 ⟨rfl, hE3⟩
 refine ⟨fun _ h => h.trans hE3, ?_⟩
 skip
 refine av (gS ((hL1.ext ((hE.trans hEd).trans hE3)).trim)) rfl ?_
 rintro v w4 ⟨a4, c4, rfl, hL4, hf4, hE4⟩
 refine ⟨fun _ h => h.trans hE4, ?_⟩
 skip
 refine av (cF hL4 (bD _) hf4 _) rfl ?_
 rintro v w5 ⟨hI, hE5⟩
 obtain ⟨vs, rfl, hvl, hvo⟩ := hI.out
 refine ⟨fun _ h => h.trans hE5, ?_⟩
 have hE25 := ((hEd.trans hE3).trans hE4).trans hE5
 refine ax (n := 2) rfl rfl hvl hvo (hb2.ext hE25) rfl (fun w6 hc6 hb6 => ⟨fun h => (nomatch h), ?_⟩)
 repeat' (first|refine aa ?_|refine ae ?_|refine aR ?_)
 have s3 := (hEd.trans hE3).size
 refine bK rfl (rc rfl hvl hb6) ⟨?_, (hE.trans hE25).chg hc6 (by omega)⟩
 have hr := (hI.chg hc6 (by omega)).mono (lo' := w.heap.size) (by omega)
 rw [bf] at hr
 exact hr
end Go.Proofs.YtppipmkpmmdcjaaGreat
namespace Go.Proofs.YtppipmkpmmdcjaaGreat
open Go.W Go.LM
theorem tu {n1 n2 : Bool} {m n : Nat} (h : (sgn n1 m).sign = (sgn n2 n).sign) : (sgn n1 m).sign * cmpZ m n = (sgn n1 m - sgn n2 n).sign := by
 have pos : ∀ k : Nat, 0 < k → ((k : Int)).sign = 1 := fun k hk => Int.sign_eq_one_of_pos (by omega)
 have neg : ∀ k : Nat, 0 < k → (-(k : Int)).sign = -1 := fun k hk => Int.sign_eq_neg_one_of_neg (by omega)
 rcases Nat.eq_zero_or_pos m with rfl | hm
 ·have h0 : ∀ b, sgn b 0 = 0 := fun b => by unfold sgn; cases b <;> rfl
  rw [h0] at h ⊢
  have : sgn n2 n = 0 := Int.sign_eq_zero_iff_zero.1 h.symm
  rw [this]; simp
 ·rcases Nat.eq_zero_or_pos n with rfl | hn
  ·have h0 : ∀ b, sgn b 0 = 0 := fun b => by unfold sgn; cases b <;> rfl
   rw [h0] at h
   have : sgn n1 m = 0 := Int.sign_eq_zero_iff_zero.1 h
   exfalso
   unfold sgn at this; split at this <;> omega
  ·cases n1 <;> cases n2 <;> simp only [sgn, if_true, Bool.false_eq_true, if_false] at h ⊢
   ·rw [pos m hm]
    unfold cmpZ
    split
    ·rw [Int.sign_eq_neg_one_of_neg (by omega)]; rfl
    ·split
     ·rw [Int.sign_eq_one_of_pos (by omega)]; rfl
     ·rw [show (m : Int) - n = 0 by omega]; rfl
   ·rw [pos m hm, neg n hn] at h; omega
   ·rw [neg m hm, pos n hn] at h; omega
   ·rw [neg m hm]
    unfold cmpZ
    split
    ·rw [Int.sign_eq_one_of_pos (by omega)]; rfl
    ·split
     ·rw [Int.sign_eq_neg_one_of_neg (by omega)]; rfl
     ·rw [show -(m : Int) - -(n : Int) = 0 by omega]; rfl
theorem pW {x y : Int} (h : x.sign < y.sign) : (x - y).sign = -1 := by
 refine Int.sign_eq_neg_one_of_neg ?_
 rcases Int.lt_trichotomy x 0 with hx | hx | hx
 ·rcases Int.lt_trichotomy y 0 with hy | hy | hy
  ·rw [Int.sign_eq_neg_one_of_neg hx, Int.sign_eq_neg_one_of_neg hy] at h; omega
  ·omega
  ·omega
 ·rw [hx, Int.sign_zero] at h
  have := Int.sign_pos_iff.1 h; omega
 ·rw [Int.sign_eq_one_of_pos hx] at h
  have : y.sign ≤ 1 := by rcases Int.sign_trichotomy y with e | e | e <;> omega
  omega
theorem me {p q : Nat} {v1 v2 : Value} {x y : Int} {w : World} (h1 : IntK p w v1 x) (h2 : IntK q w v2 y) :
  CallsR Tryz.prog 46 #[v1, v2] w fun r w' => r = .int .i64 (x - y).sign ∧ Ex w w' := by
 have h1s := h1
 have h2s := h2
 obtain ⟨n1, a1, c1, l1, rfl, hL1, rfl, hp1⟩ := h1
 obtain ⟨n2, a2, c2, l2, rfl, hL2, rfl, hq1⟩ := h2
 refine aH (args := [_, _]) Tryz.func46 rfl rfl ?_
 refine aj ?_
 refine ah rfl ?_
 refine bH rfl (fun g2 w2 hn2 => ⟨fun _ _ => trivial, ?_⟩)
 refine bH rfl (fun g3 w3 hn3 => ⟨fun _ _ => trivial, ?_⟩)
 have hb2 := hn2.blk.ext hn3.ex
 have hb3 := hn3.blk
 have hE := hn2.ex.trans hn3.ex
 repeat' (first|refine ai rfl ?_|refine aa ?_|refine aj ?_|refine ae ?_)
 have hEd : Ex w3 w3.drew := (Ex.refl w3).drew
 refine bi (late := []) (plan := [(0, none), (2, none), (1, some true), (3, some true), (4, none), (5, none)]) (fun w' => Ex w3 w') bB (by kernel_rfl) hEd ?_
 repeat' (first|refine aN rfl (fun _ h => hb2.ext h) rfl ?_|refine aN rfl (fun _ h => hb3.ext h) rfl ?_)
 refine av (bP (h1s.ext (hE.trans hEd))) rfl ?_
 rintro v w4 ⟨rfl, hE4⟩
 refine ⟨fun _ h => h.trans hE4, ?_⟩
 skip
 refine av (bP (h2s.ext ((hE.trans hEd).trans hE4))) rfl ?_
 rintro v w5 ⟨rfl, hE5⟩
 refine ⟨fun _ h => h.trans hE5, ?_⟩
 have hE35 := (hEd.trans hE4).trans hE5
 repeat' (first|refine ai rfl ?_|refine aa ?_|refine aj ?_|refine ah rfl ?_|refine ae ?_|refine aP rfl (fun hc => ?_) (fun hc => ?_)|refine aA ?_|refine aK ?_|refine aR ?_|refine bv ?_|refine cN ?_|refine aF ?_)
 ·exact bK rfl (rt rfl) ⟨congrArg (Value.int .i64) (pW (by assumption)).symm, hE.trans hE35⟩
 ·refine bK rfl (rt rfl) ⟨?_, hE.trans hE35⟩
  have : (sgn n2 (natOf l2) - sgn n1 (natOf l1)).sign = -1 := pW (by assumption)
  show Value.int .i64 1 = _
  rw [show sgn n1 (natOf l1) - sgn n2 (natOf l2) = -(sgn n2 (natOf l2) - sgn n1 (natOf l1)) by omega, Int.sign_neg, this]; rfl
 ·have heq : (sgn n1 (natOf l1)).sign = (sgn n2 (natOf l2)).sign := by omega
  have hE5d : Ex w3 w5.drew := hE35.drew
  refine bi (late := []) (plan := [(0, none), (1, none), (2, none), (4, none), (5, none), (3, some true), (6, some true), (7, some true), (8, none), (9, none)]) (fun w' => Ex w3 w') bB (by kernel_rfl) hE5d ?_
  repeat' (first|refine aQ rfl (fun _ h => hb2.ext h) rfl ?_|refine aQ rfl (fun _ h => hb3.ext h) rfl ?_|refine ai rfl ?_|refine aG rfl ?_)
  refine av (cf (hL1.ext (hE.trans hE5d))) rfl ?_
  rintro v w6 ⟨rfl, hE6⟩
  refine ⟨fun _ h => h.trans hE6, ?_⟩
  skip
  refine av (cf (hL2.ext ((hE.trans hE5d).trans hE6))) rfl ?_
  rintro v w7 ⟨rfl, hE7⟩
  refine ⟨fun _ h => h.trans hE7, ?_⟩
  have hE37 := (hE5d.trans hE6).trans hE7
  skip
  refine av (dP ((hL1.ext (hE.trans hE37)).trim) ((hL2.ext (hE.trans hE37)).trim) (bD _) (bD _)) rfl ?_
  rintro v w8 ⟨rfl, hE8⟩
  refine ⟨fun _ h => h.trans hE8, ?_⟩
  have hc := tu heq
  have hb : -1 ≤ (sgn n1 (natOf l1) - sgn n2 (natOf l2)).sign ∧ (sgn n1 (natOf l1) - sgn n2 (natOf l2)).sign ≤ 1 := by
   rcases Int.sign_trichotomy (sgn n1 (natOf l1) - sgn n2 (natOf l2)) with e | e | e <;> omega
  rw [bf, bf]
  repeat' (first|(refine mJ rfl rfl (by rw [hc]; omega) (by rw [hc]; omega) ?_)|refine ai rfl ?_|refine aa ?_|refine ae ?_|refine aR ?_)
  exact bK rfl (rt rfl) ⟨congrArg (Value.int .i64) hc, (hE.trans hE37).trans hE8⟩
end Go.Proofs.YtppipmkpmmdcjaaGreat
namespace Go.Proofs.YtppipmkpmmdcjaaGreat
open Go.W Go.LM
theorem cK {p q : Nat} {v1 v2 : Value} {x y : Int} {w : World} (h1 : IntK p w v1 x) (h2 : IntK q w v2 y) (hkl : p + q ≤ 17592186044416) :
  CallsR Tryz.prog 30 #[v1, v2] w (RetZ w (x * y)) := by
 obtain ⟨n1, a1, c1, l1, rfl, hL1, rfl, hp1⟩ := h1
 obtain ⟨n2, a2, c2, l2, rfl, hL2, rfl, hq1⟩ := h2
 have tl1 := cI l1
 have tl2 := cI l2
 refine aH (args := [_, _]) Tryz.func30 rfl rfl ?_
 refine aj ?_
 refine ah rfl ?_
 refine bH rfl (fun g2 w2 hn2 => ⟨fun _ _ => trivial, ?_⟩)
 refine bH rfl (fun g3 w3 hn3 => ⟨fun _ _ => trivial, ?_⟩)
 refine aB (fun g4 w4 hn4 => ⟨fun _ _ => trivial, ?_⟩)
 have hb2 := (hn2.blk.ext hn3.ex).ext hn4.ex
 have hb3 := hn3.blk.ext hn4.ex
 have hb4 : Blk w4 g4 33 (intL false none 0 0) := hn4.blk
 have hE := (hn2.ex.trans hn3.ex).trans hn4.ex
 have l4 := hn4.lo
 have l4' := hn4.hi
 have s3 := (hn2.ex.trans hn3.ex).size
 repeat' (first|refine aa ?_|refine aj ?_|refine ae ?_)
 refine bi (late := [13]) (plan := [(0, none), (1, none), (2, none), (3, none), (4, none), (5, none), (6, none), (8, none), (9, none), (7, some true), (10, some true), (11, some true), (12, some true), (13, some false)]) (fun w' => Blk w' g2 33 (intL n1 a1 l1.length c1) ∧ Blk w' g3 33 (intL n2 a2 l2.length c2)) bB (by kernel_rfl) ⟨hb2.drew, hb3.drew⟩ ?_
 repeat' (first|refine aQ rfl (fun _ h => h.1) rfl ?_|refine aQ rfl (fun _ h => h.2) rfl ?_|refine aG rfl ?_|refine gF rfl rfl ?_)
 refine av (cf (hL1.ext hE.drew)) rfl ?_
 rintro v w5 ⟨rfl, hE5⟩
 refine ⟨fun _ h => ⟨h.1.ext hE5, h.2.ext hE5⟩, ?_⟩
 refine av (cf (hL2.ext (hE.drew.trans hE5))) rfl ?_
 rintro v w6 ⟨rfl, hE6⟩
 refine ⟨fun _ h => ⟨h.1.ext hE6, h.2.ext hE6⟩, ?_⟩
 have hE6' := (hE.drew.trans hE5).trans hE6
 refine av (jL (hL1.ext hE6').trim (hL2.ext hE6').trim (by omega)) rfl ?_
 rintro v w7 ⟨l7, hn7, hcn7, hln7, a7, c7, rfl, hL7, hf7, hE7⟩
 refine ⟨fun _ h => ⟨h.1.ext hE7, h.2.ext hE7⟩, ?_⟩
 refine av (cF hL7 hcn7 hf7 _) rfl ?_
 rintro v w8 ⟨hI, hE8⟩
 refine ⟨fun _ h => ⟨h.1.ext hE8, h.2.ext hE8⟩, ?_⟩
 obtain ⟨neg, a', c', ls, rfl, hI'⟩ := id hI
 refine ax (n := 2) rfl rfl rfl rfl ((((hb4.drew.ext hE5).ext hE6).ext hE7).ext hE8) rfl (fun w9 hc9 hb9 => ⟨fun h => absurd h (by decide), ?_⟩)
 repeat' (first|refine aa ?_|refine ae ?_|refine aR ?_)
 have s5 := (hE5.trans hE6).size
 have s4 : w4.drew.heap.size = w4.heap.size := rfl
 refine bK rfl (rc rfl rfl hb9) ⟨?_, ((hE6'.trans hE7).trans hE8).chg hc9 (by omega)⟩
 have hr := (hI.chg hc9 (by omega)).mono (lo' := w.heap.size) (by have := hE6'.size; omega)
 rw [hn7, bf, bf] at hr
 have e : sgn (!(n1 == n2)) (natOf l1 * natOf l2) = sgn n1 (natOf l1) * sgn n2 (natOf l2) := by
  unfold sgn; cases n1 <;> cases n2 <;> simp [Int.neg_mul, Int.mul_neg]
 rwa [e] at hr
end Go.Proofs.YtppipmkpmmdcjaaGreat
