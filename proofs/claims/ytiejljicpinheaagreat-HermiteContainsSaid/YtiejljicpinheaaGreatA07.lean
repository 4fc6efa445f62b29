import Derived.Test.YtiejljicpinheaaGreatA06
namespace Go.Proofs.YtiejljicpinheaaGreat
open Go.W Go.LM
theorem ci (n : Nat) : sgn false n = n := rfl
theorem IntC.limbs {lo : Nat} {w : World} {v : Value} {n : Nat} (h : IntC lo w v (n : Int)) : ∃ a c ls, v = .agg (intL false a ls.length c).toArray ∧ Limbs w a c ls ∧ natOf ls = n ∧ Canon ls ∧ ∀ ad, a = some ad → lo ≤ ad.block := by
 obtain ⟨n1, a1, c1, l1, rfl, hL1, e1, hc1, g1, h6⟩ := h
 cases n1
 ·exact ⟨a1, c1, l1, rfl, hL1, by simp only [sgn, Bool.false_eq_true, if_false] at e1; omega, hc1, h6⟩
 ·exfalso
  have := cC.2 (show natOf l1 = 0 by simp [sgn] at e1; omega)
  rw [hc1] at this; exact g1 rfl this
theorem gk {la lb : List Nat} {a b : Option Addr} {c d : Nat} {w : World} (ha : Limbs w a c la) (hb : Limbs w b d lb) (h2 : la.length ≤ 2) (h3 : lb.length ≤ 2) (hpos : 0 < natOf lb) :
  CallsR Tryz.prog 128 #[.slice a la.length c, .slice b lb.length d] w fun v w' => ∃ a1 c1 l1 a2 c2 l2, v = .tuple #[.slice a1 (List.length l1) c1, .slice a2 (List.length l2) c2] ∧
   Limbs w' a1 c1 l1 ∧ Limbs w' a2 c2 l2 ∧ natOf l1 = natOf la / natOf lb ∧ natOf l2 = natOf la % natOf lb ∧ Ex w w' := by
 have h64a : natOf la < 18446744073709551616 := by
  have := bM ha.lim
  have := dZ (a := la.length) (b := 2) h2
  omega
 have h64b : natOf lb < 18446744073709551616 := by
  have := bM hb.lim
  have := dZ (a := lb.length) (b := 2) h3
  omega
 refine aF (args := [_, _]) Tryz.func128 rfl rfl ?_
 repeat' (first|refine kg rfl rfl (by omega) ?_|refine ai rfl ?_|refine aa ?_|refine aj ?_|refine ah rfl ?_|refine ae ?_|refine aZ rfl ?_|refine bz rfl rfl ?_|refine az rfl ?_)
 refine aw (jy ha h2) rfl ?_
 rintro v w1 ⟨rfl, hE1⟩
 refine ⟨fun _ _ => trivial, ?_⟩
 repeat' (first|refine ai rfl ?_)
 refine aw (jy (hb.ext hE1) h3) rfl ?_
 rintro v w2 ⟨rfl, hE2⟩
 refine ⟨fun _ _ => trivial, ?_⟩
 repeat' (first|refine ai rfl ?_|refine aa ?_|refine aj ?_|refine ae ?_)
 have hE := hE1.trans hE2
 refine bi (late := [3, 8]) (plan := [(0, none), (1, none), (2, none), (5, none), (6, none), (7, none), (3, some false), (4, none), (8, some false), (9, none), (10, none), (11, none)]) (fun w' => Ex w w') bA (by kernel_rfl) hE.drew ?_
 repeat' (first|refine nQ rfl rfl (by omega) (by omega) (by omega) ?_|refine iC rfl rfl (by omega) (by omega) ?_|refine ai rfl ?_)
 refine aw (eL (n := natOf la / natOf lb) (Nat.lt_of_le_of_lt (Nat.div_le_self _ _) h64a) false _) rfl ?_
 rintro v w3 ⟨hz3, hE3⟩
 refine ⟨fun _ h => h.trans hE3, ?_⟩
 rw [ci] at hz3
 obtain ⟨a3, c3, l3, rfl, hL3, hn3, _, _⟩ := hz3.limbs
 repeat' (first|refine oR (ft := 41) (off := 1) (by kernel_rfl) rfl rfl ?_)
 refine aw (eL (n := natOf la % natOf lb) (Nat.lt_of_le_of_lt (Nat.mod_le _ _) h64a) false _) rfl ?_
 rintro v w4 ⟨hz4, hE4⟩
 refine ⟨fun _ h => h.trans hE4, ?_⟩
 rw [ci] at hz4
 obtain ⟨a4, c4, l4, rfl, hL4, hn4, _, _⟩ := hz4.limbs
 repeat' (first|refine oR (ft := 41) (off := 1) (by kernel_rfl) rfl rfl ?_|refine ai rfl ?_|refine aa ?_|refine ae ?_|refine aI ?_|refine aU ?_)
 exact cA rfl (rt rfl) (rt rfl) ⟨a3, c3, l3, a4, c4, l4, rfl, hL3.ext hE4, hL4, hn3, hn4, (hE.drew.trans hE3).trans hE4⟩
end Go.Proofs.YtiejljicpinheaaGreat
namespace Go.W
theorem Own.cap {w : World} {lo T s n cap : Nat} {a : Option Addr} {vs : List Value} (h : Own w lo T s a n cap vs) : n ≤ cap := by
 rcases h.2 with ⟨hv, hn⟩ | ⟨g, c, cur, hv, hg, hb, h1, h2, h3, h4⟩
 ·omega
 ·simp only [Value.slice.injEq] at hv; omega
end Go.W
namespace Go.Proofs.YtiejljicpinheaaGreat
open Go.W Go.PM
end Go.Proofs.YtiejljicpinheaaGreat
namespace Go.LM
theorem dQ (k : Nat) : 4294967296 ^ (k + 1) = 4294967296 ^ k * 4294967296 := Nat.pow_succ _ _
theorem kt {S : List Nat} {k c a b N : Nat} (hk : k < S.length) (h0 : S.getD k 0 = 0) (h : natOf S + c * 4294967296 ^ k = N) :
  natOf (S.set k ((c + (a + b)) % 4294967296)) + (c + (a + b)) / 4294967296 * 4294967296 ^ (k + 1) = N + (a + b) * 4294967296 ^ k := by
 have h1 := cH (v := (c + (a + b)) % 4294967296) hk
 rw [h0, Nat.zero_mul, Nat.add_zero] at h1
 rw [h1, dQ]
 have h2 := Nat.mod_add_div (c + (a + b)) 4294967296
 generalize (c + (a + b)) % 4294967296 = r at *
 generalize (c + (a + b)) / 4294967296 = q at *
 generalize 4294967296 ^ k = P at *
 have e : r * P + q * (P * 4294967296) = (c + (a + b)) * P := by rw [← h2]; grind
 have e2 : (c + (a + b)) * P = c * P + (a + b) * P := Nat.add_mul _ _ _
 omega
theorem qQ {D : List Nat} {k br a x M N : Nat} (hk : k < D.length) (h0 : D.getD k 0 = 0) (h : natOf D + M = N + br * 4294967296 ^ k) :
  (x + br ≤ a → natOf (D.set k (a - (x + br))) + (M + x * 4294967296 ^ k) = N + a * 4294967296 ^ k) ∧
  (x + br ≤ 4294967296 + a → natOf (D.set k (4294967296 + a - (x + br))) + (M + x * 4294967296 ^ k) = N + a * 4294967296 ^ k + 1 * 4294967296 ^ (k + 1)) := by
 constructor
 ·intro hle
  have h1 := cH (v := a - (x + br)) hk
  rw [h0, Nat.zero_mul, Nat.add_zero] at h1
  rw [h1]
  obtain ⟨d, rfl⟩ : ∃ d, a = x + br + d := ⟨a - (x + br), by omega⟩
  rw [show x + br + d - (x + br) = d by omega]
  generalize 4294967296 ^ k = P at *
  have e : (x + br + d) * P = x * P + br * P + d * P := by grind
  omega
 ·intro hle
  have h1 := cH (v := 4294967296 + a - (x + br)) hk
  rw [h0, Nat.zero_mul, Nat.add_zero] at h1
  rw [h1, dQ, Nat.one_mul]
  obtain ⟨d, hd⟩ : ∃ d, 4294967296 + a = x + br + d := ⟨4294967296 + a - (x + br), by omega⟩
  rw [show 4294967296 + a - (x + br) = d by omega]
  generalize 4294967296 ^ k = P at *
  have e : (4294967296 + a) * P = (x + br + d) * P := by rw [hd]
  have e1 : (x + br + d) * P = x * P + br * P + d * P := by grind
  have e2 : (4294967296 + a) * P = P * 4294967296 + a * P := by grind
  omega
theorem lv {U : List Nat} {k br x M N : Nat} (hk : k < U.length) (h : natOf U + M = N + br * 4294967296 ^ k) :
  (x + br ≤ U.getD k 0 → natOf (U.set k (U.getD k 0 - (x + br))) + (M + x * 4294967296 ^ k) = N) ∧
  (x + br ≤ 4294967296 + U.getD k 0 → natOf (U.set k (4294967296 + U.getD k 0 - (x + br))) + (M + x * 4294967296 ^ k) = N + 1 * 4294967296 ^ (k + 1)) := by
 constructor
 ·intro hle
  have h1 := cH (v := U.getD k 0 - (x + br)) hk
  generalize U.getD k 0 = a at *
  obtain ⟨d, rfl⟩ : ∃ d, a = x + br + d := ⟨a - (x + br), by omega⟩
  rw [show x + br + d - (x + br) = d by omega] at *
  generalize 4294967296 ^ k = P at *
  have e : (x + br + d) * P = x * P + br * P + d * P := by grind
  omega
 ·intro hle
  have h1 := cH (v := 4294967296 + U.getD k 0 - (x + br)) hk
  generalize U.getD k 0 = a at *
  obtain ⟨d, hd⟩ : ∃ d, 4294967296 + a = x + br + d := ⟨4294967296 + a - (x + br), by omega⟩
  rw [show 4294967296 + a - (x + br) = d by omega] at *
  rw [dQ, Nat.one_mul]
  generalize 4294967296 ^ k = P at *
  have e : (4294967296 + a) * P = (x + br + d) * P := by rw [hd]
  have e1 : (x + br + d) * P = x * P + br * P + d * P := by grind
  have e2 : (4294967296 + a) * P = P * 4294967296 + a * P := by grind
  omega
theorem lx {U : List Nat} {k c x N : Nat} (hk : k < U.length) (h : natOf U + c * 4294967296 ^ k = N) :
  natOf (U.set k ((c + (U.getD k 0 + x)) % 4294967296)) + (c + (U.getD k 0 + x)) / 4294967296 * 4294967296 ^ (k + 1) = N + x * 4294967296 ^ k := by
 have h1 := cH (v := (c + (U.getD k 0 + x)) % 4294967296) hk
 have h2 := Nat.mod_add_div (c + (U.getD k 0 + x)) 4294967296
 rw [dQ]
 generalize (c + (U.getD k 0 + x)) % 4294967296 = r at *
 generalize (c + (U.getD k 0 + x)) / 4294967296 = q at *
 generalize U.getD k 0 = a at *
 generalize 4294967296 ^ k = P at *
 have e : r * P + q * (P * 4294967296) = (c + (a + x)) * P := by rw [← h2]; grind
 have e2 : (c + (a + x)) * P = c * P + a * P + x * P := by grind
 omega
theorem py {_q r m X b Q : Nat} (h : b * Q + r = X) (_hb : 0 < b) : b * ((r * 4294967296 + m) / b + 4294967296 * Q) + (r * 4294967296 + m) % b = m + 4294967296 * X := by
 have h2 := Nat.div_add_mod (r * 4294967296 + m) b
 rw [Nat.mul_add, ← h]
 generalize (r * 4294967296 + m) / b = y at *
 generalize (r * 4294967296 + m) % b = z at *
 grind
theorem qR {S : List Nat} {k c m s N : Nat} (hk : k < S.length) (h0 : S.getD k 0 = 0) (h : natOf S + c * 4294967296 ^ k = N) (hc : c < 2 ^ s) :
  natOf (S.set k ((c ||| m <<< s) % 4294967296)) + (c ||| m <<< s) / 4294967296 * 4294967296 ^ (k + 1) = N + m * 2 ^ s * 4294967296 ^ k := by
 have e : c ||| m <<< s = c + (m * 2 ^ s + 0) := by
  rw [Nat.or_comm, ← Nat.shiftLeft_add_eq_or_of_lt hc, Nat.shiftLeft_eq]; omega
 rw [e, kt hk h0 h, Nat.add_zero]
theorem pz {c m s : Nat} (hc : c < 2 ^ s) (hm : m < 4294967296) : (c ||| m <<< s) / 4294967296 < 2 ^ s := by
 have e : c ||| m <<< s = m * 2 ^ s + c := by rw [Nat.or_comm, ← Nat.shiftLeft_add_eq_or_of_lt hc, Nat.shiftLeft_eq]
 rw [e]
 refine (Nat.div_lt_iff_lt_mul (by decide)).2 ?_
 have : (m + 1) * 2 ^ s ≤ 4294967296 * 2 ^ s := Nat.mul_le_mul_right _ hm
 rw [Nat.add_mul, Nat.one_mul] at this
 have h2 := Nat.mul_comm 4294967296 (2 ^ s)
 omega
def shrL (s : Nat) : List Nat → List Nat
 | [] => []
 | d :: ds => (d + 4294967296 * ds.headD 0) / 2 ^ s % 4294967296 :: shrL s ds
theorem ku (s : Nat) : ∀ l, (shrL s l).length = l.length
 | [] => rfl
 | d :: ds => by simp [shrL, ku s ds]
theorem m7 (s : Nat) : ∀ l, Lim (shrL s l)
 | [] => fun d hd => by simp [shrL] at hd
 | d :: ds => fun x hx => by
  rcases List.mem_cons.1 hx with e | e
  ·rw [e]; exact Nat.mod_lt _ (by decide)
  ·exact m7 s ds x e
theorem kv {s : Nat} (hs : s ≤ 32) : ∀ {l : List Nat}, Lim l → natOf (shrL s l) = natOf l / 2 ^ s
 | [], _ => by simp [shrL, natOf]
 | d :: ds, h => by
  have hd : d < 4294967296 := h d (by simp)
  have hds : Lim ds := fun x hx => h x (by simp [hx])
  have ih := kv hs hds
  obtain ⟨Y, hY⟩ : ∃ Y, natOf ds = ds.headD 0 + 4294967296 * Y := by
   cases ds with
   | nil => exact ⟨0, rfl⟩
   | cons x xs => exact ⟨natOf xs, rfl⟩
  show (d + 4294967296 * ds.headD 0) / 2 ^ s % 4294967296 + 4294967296 * natOf (shrL s ds) = (d + 4294967296 * natOf ds) / 2 ^ s
  rw [ih]
  have hT : 4294967296 = 2 ^ s * 2 ^ (32 - s) := by rw [← Nat.pow_add, show s + (32 - s) = 32 by omega]
  have hS : 0 < 2 ^ s := Nat.two_pow_pos s
  generalize 2 ^ s = S at *
  generalize 2 ^ (32 - s) = T at *
  generalize ds.headD 0 = x0 at *
  generalize natOf ds = X at *
  have key : ∀ Z, (d + 4294967296 * Z) / S = d / S + T * (Z % S) + 4294967296 * (Z / S) := fun Z => by
   have h1 := Nat.mod_add_div Z S
   have e : d + 4294967296 * Z = d + S * (T * (Z % S) + 4294967296 * (Z / S)) := by
    conv => lhs; rw [← h1]
    rw [hT]; grind
   rw [e, Nat.add_mul_div_left _ _ hS]
   omega
  rw [key x0, key X]
  have hmod : X % S = x0 % S := by
   rw [hY, hT, Nat.mul_assoc, Nat.add_mul_mod_self_left]
  rw [hmod]
  have hlt : d / S + T * (x0 % S) < 4294967296 := by
   have h1 : d / S < T := (Nat.div_lt_iff_lt_mul hS).2 (by rw [Nat.mul_comm, ← hT]; exact hd)
   have h2 : x0 % S < S := Nat.mod_lt _ hS
   have h3 : T * (x0 % S + 1) ≤ T * S := Nat.mul_le_mul_left _ h2
   rw [Nat.mul_add, Nat.mul_one] at h3
   have h4 := Nat.mul_comm T S
   omega
  rw [Nat.add_mul_mod_self_left, Nat.mod_eq_of_lt hlt]
theorem ly (s : Nat) : ∀ (l : List Nat) (k : Nat), k < l.length → (shrL s l).getD k 0 = (l.getD k 0 + 4294967296 * l.getD (k + 1) 0) / 2 ^ s % 4294967296
 | [], k, h => absurd h (by simp)
 | d :: ds, 0, _ => by
  show (d + 4294967296 * ds.headD 0) / 2 ^ s % 4294967296 = (d + 4294967296 * (d :: ds).getD 1 0) / 2 ^ s % 4294967296
  cases ds <;> rfl
 | d :: ds, k + 1, h => by
  show (shrL s ds).getD k 0 = (ds.getD k 0 + 4294967296 * ds.getD (k + 1) 0) / 2 ^ s % 4294967296
  exact ly s ds k (by simpa using h)
end Go.LM
namespace Go.LM
theorem bO {l : List Nat} {k : Nat} (h : l.length ≤ k) : natOf (l.take k) = natOf l := by rw [List.take_of_length_le h]
theorem bL (l : List Nat) (k : Nat) : natOf (l.take (k + 1)) = natOf (l.take k) + l.getD k 0 * 4294967296 ^ k := by
 by_cases h : k < l.length
 ·exact bN h
 ·rw [bO (by omega), bO (by omega), List.getD_eq_getElem?_getD, List.getElem?_eq_none (by omega)]; simp
theorem Lim.snoc {l : List Nat} {d : Nat} (h : Lim l) (hd : d < 4294967296) : Lim (l ++ [d]) := fun x hx => by
 rcases List.mem_append.1 hx with h' | h'
 ·exact h x h'
 ·rw [List.mem_singleton.1 h']; exact hd
theorem lz {S : List Nat} {c t N M : Nat} (h : natOf S + c * 4294967296 ^ S.length = N) (ht : t = c + M) :
  natOf (S ++ [t % 4294967296]) + t / 4294967296 * 4294967296 ^ (S.length + 1) = N + M * 4294967296 ^ S.length := by
 rw [dk, dQ]
 have h2 := Nat.mod_add_div t 4294967296
 generalize t % 4294967296 = r at *
 generalize t / 4294967296 = q at *
 generalize 4294967296 ^ S.length = P at *
 have e : P * r + q * (P * 4294967296) = t * P := by rw [← h2]; grind
 have e2 : t * P = c * P + M * P := by rw [ht, Nat.add_mul]
 omega
theorem qS {S : List Nat} {br a x M N : Nat} (h : natOf S + M = N + br * 4294967296 ^ S.length) :
  (x + br ≤ a → natOf (S ++ [a - (x + br)]) + (M + x * 4294967296 ^ S.length) = N + a * 4294967296 ^ S.length) ∧
  (x + br ≤ 4294967296 + a → natOf (S ++ [4294967296 + a - (x + br)]) + (M + x * 4294967296 ^ S.length) = N + a * 4294967296 ^ S.length + 1 * 4294967296 ^ (S.length + 1)) := by
 rw [dQ]
 constructor
 ·intro hle
  rw [dk]
  obtain ⟨d, rfl⟩ : ∃ d, a = x + br + d := ⟨a - (x + br), by omega⟩
  rw [show x + br + d - (x + br) = d by omega]
  generalize 4294967296 ^ S.length = P at *
  have e : (x + br + d) * P = x * P + br * P + P * d := by grind
  omega
 ·intro hle
  rw [dk]
  obtain ⟨d, hd⟩ : ∃ d, 4294967296 + a = x + br + d := ⟨4294967296 + a - (x + br), by omega⟩
  rw [show 4294967296 + a - (x + br) = d by omega]
  generalize 4294967296 ^ S.length = P at *
  have e : (4294967296 + a) * P = (x + br + d) * P := by rw [hd]
  have e1 : (x + br + d) * P = x * P + br * P + P * d := by grind
  have e2 : (4294967296 + a) * P = P * 4294967296 + a * P := by grind
  omega
end Go.LM
namespace Go.W
section
variable {P : Program} {S : World → Prop} {ops : List Oper} {K : Env → World → Prop} {rest : List (Oper × Option Bool)} {ρ : Env} {w : World} {b : Option Bool} {kf : Bool} {d : Nat} {dst : Option Nat} {T T' : TypeId} {pos : String} {af : Array Edge}
theorem oe {x y : Operand} {m m' : Nat} {T'' : TypeId} (hx : ev ρ x = .int .u64 (m : Int)) (hy : ev ρ y = .int .u64 (m' : Int)) (h2 : m' ≤ 18446744073709551616)
  (h : RR P S ops K rest (upd ρ d (.int .u64 (((18446744073709551616 + m - m') % 18446744073709551616 : Nat) : Int))) w) : RR P S ops K ((⟨some d, .binOp .sub T' x y T'', T, pos, af, none⟩, b) :: rest) ρ w :=
 qk hx hy (by
  rw [show IntKind.u64.wrap ((m : Int) - (m' : Int)) = (((18446744073709551616 + m - m') % 18446744073709551616 : Nat) : Int) from (cK rfl).trans (by simp only [IntKind.bits]; omega)]
  exact h)
end
end Go.W
namespace Go.Proofs.YtiejljicpinheaaGreat
open Go.W Go.LM
def IntK (k : Nat) (w : World) (v : Value) (z : Int) : Prop := ∃ neg a c ls, v = .agg (intL neg a ls.length c).toArray ∧ Limbs w a c ls ∧ z = sgn neg (natOf ls) ∧ ls.length ≤ k
theorem IntK.ext {k : Nat} {w w' : World} {v : Value} {z : Int} (h : IntK k w v z) (e : Ex w w') : IntK k w' v z := by obtain ⟨neg, a, c, ls, h1, h2, h3⟩ := h; exact ⟨neg, a, c, ls, h1, h2.ext e, h3⟩
theorem IntK.mono {k k' : Nat} {w : World} {v : Value} {z : Int} (h : IntK k w v z) (e : k ≤ k') : IntK k' w v z := by obtain ⟨neg, a, c, ls, h1, h2, h3, h4⟩ := h; exact ⟨neg, a, c, ls, h1, h2, h3, Nat.le_trans h4 e⟩
theorem IntK.lt {k : Nat} {w : World} {v : Value} {z : Int} (h : IntK k w v z) : z.natAbs < 4294967296 ^ k := by
 obtain ⟨neg, a, c, ls, h1, h2, rfl, h4⟩ := h
 rw [cS]
 exact Nat.lt_of_lt_of_le (bM h2.lim) (Nat.pow_le_pow_right (by decide) h4)
theorem IntC.k {lo k : Nat} {w : World} {v : Value} {z : Int} (h : IntC lo w v z) (hz : z.natAbs < 4294967296 ^ k) : IntK k w v z := by
 obtain ⟨neg, a, c, ls, h1, h2, rfl, h4, _, _⟩ := h
 rw [cS] at hz
 exact ⟨neg, a, c, ls, h1, h2, rfl, cO h4 hz⟩
theorem IntK.out {k : Nat} {w : World} {v : Value} {z : Int} (h : IntK k w v z) : ∃ cs : List Value, v = .agg cs.toArray ∧ cs.length = 2 ∧ cs.all Value.oneCell' = true := by
 obtain ⟨neg, a, c, ls, rfl, _⟩ := h; exact ⟨_, rfl, rfl, rfl⟩
def RetM (w : World) (p : List Nat → Prop) (v : Value) (w' : World) : Prop := ∃ ls a c, v = .slice a (List.length ls) c ∧ Limbs w' a c ls ∧ p ls ∧ Ex w w'
set_option maxHeartbeats 2000000 in
theorem m8 {la lb : List Nat} {a b : Option Addr} {c d : Nat} {w : World} (ha : Limbs w a c la) (hb : Limbs w b d lb) (hla : la.length < 17592186044416) (hlb : lb.length < 17592186044416) :
  CallsR Tryz.prog 133 #[.slice a la.length c, .slice b lb.length d] w (RetM w fun ls => natOf ls = natOf la + natOf lb) := by
 refine aF (args := [_, _]) Tryz.func133 rfl rfl ?_
 repeat' (first|refine ai rfl ?_|refine aa ?_|refine aj ?_|refine ah rfl ?_|refine ae ?_|refine aA ?_)
 refine aY (ι := Nat × List Nat × Nat × Option Addr × Nat) [5, 6, 7, 8, 9, 10, 11, 12, 13, 14, 15, 16, 17, 18, 19, 20, 21, 22, 23, 24, 25, 26, 27, 28, 29, 30, 31, 32, 33, 34, 35, 36, 37, 38, 39, 40, 41, 42, 43, 44, 45, 46, 47, 48] (fun s => [(7, .int .i64 (s.1 : Int)), (5, .slice s.2.2.2.1 s.1 s.2.2.2.2), (6, .int .u64 (s.2.2.1 : Int))])
  (fun s w' => (s.1 ≤ la.length ∨ s.1 ≤ lb.length) ∧ s.2.1.length = s.1 ∧ Own w' w.heap.size 113 1 s.2.2.2.1 s.1 s.2.2.2.2 (limbsL s.2.1) ∧ Lim s.2.1 ∧ s.2.2.1 ≤ 1 ∧ natOf s.2.1 + s.2.2.1 * 4294967296 ^ s.1 = natOf (la.take s.1) + natOf (lb.take s.1) ∧ Ex w w')
  (fun s => la.length + lb.length - s.1) (0, [], 0, none, 0) ⟨rfl, rfl, rfl, trivial⟩ ⟨by simp, rfl, Own.nil _ _ _ _, by intro d hd; simp at hd, by simp, by simp [natOf], Ex.refl _⟩ ?_
 rintro ⟨i, S, cy, o, cap⟩ ξ w1 ⟨hi, hS, hO, hL, hcy, hN, hE⟩
 simp only at hi hS hO hL hcy hN
 show CW _ _ _ _ (over [(7, .int .i64 (i : Int)), (5, .slice o i cap), (6, .int .u64 (cy : Int))] _) w1
 have ha1 := ha.ext hE
 have hb1 := hb.ext hE
 have hxa := ha.lim.getD i
 have hxb := hb.lim.getD i
 have za : la.length ≤ i → la.getD i 0 = 0 := fun h => by rw [List.getD_eq_getElem?_getD, List.getElem?_eq_none h]; rfl
 have zb : lb.length ≤ i → lb.getD i 0 = 0 := fun h => by rw [List.getD_eq_getElem?_getD, List.getElem?_eq_none h]; rfl
 have fin : ∀ (t : Nat) (o' : Option Addr) (cap' : Nat) (w2 : World), (i < la.length ∨ i < lb.length) → t = cy + (la.getD i 0 + lb.getD i 0) → Own w2 w.heap.size 113 1 o' (i + 1) cap' (limbsL (S ++ [t % 4294967296])) → w1.grownBy w2 (Value.slice o i cap).ownBlock →
   ((i + 1 ≤ la.length ∨ i + 1 ≤ lb.length) ∧ (S ++ [t % 4294967296]).length = i + 1 ∧ Own w2 w.heap.size 113 1 o' (i + 1) cap' (limbsL (S ++ [t % 4294967296])) ∧ Lim (S ++ [t % 4294967296]) ∧ t / 4294967296 ≤ 1 ∧ natOf (S ++ [t % 4294967296]) + t / 4294967296 * 4294967296 ^ (i + 1) = natOf (la.take (i + 1)) + natOf (lb.take (i + 1)) ∧ Ex w w2) := by
  intro t o' cap' w2 hii ht hO' hg
  refine ⟨by omega, by simp [hS], hO', hL.snoc (Nat.mod_lt _ (by decide)), by omega, ?_, hO.grow_ex hg hE (Nat.le_refl _)⟩
  subst hS
  rw [lz hN ht, bL, bL, Nat.add_mul]
  omega
 repeat' (first|(refine aD rfl rfl (ha1.sl.plain (by simp; omega)) (by omega) ?_)|refine bG rfl ha1.sl (by omega) ?_|(refine aD rfl rfl (hb1.sl.plain (by simp; omega)) (by omega) ?_)|refine bG rfl hb1.sl (by omega) ?_|refine gH rfl (by assumption) ?_|refine fG rfl rfl (by omega) ?_|refine dC rfl ?_|refine d5 rfl rfl ?_|refine me rfl rfl rfl rfl hO (by omega) (by omega) hE.size (fun gx o2 c2 w2 hO2 hg2 hA2 => ?_)|refine ai rfl ?_|refine aa ?_|refine aj ?_|refine ah rfl ?_|refine ae ?_|refine aZ rfl ?_|refine bz rfl rfl ?_|refine bK rfl rfl ?_|refine gW rfl rfl (fun hc => ?_) (fun hc => ?_)|refine bc rfl rfl (by omega) (by omega) ?_|refine az rfl ?_|refine aO rfl (fun hc => ?_) (fun hc => ?_)|refine aA ?_|refine aP ?_|refine aJ ?_|refine aQ ?_|refine aL ?_|refine aI ?_|refine aE ?_)
 all_goals first
  | (exfalso; omega)
  | (refine ⟨⟨(i + 1, _, _, o2, c2), fin _ o2 c2 w2 (by omega) (by omega) hO2 hg2, by simp only; omega, rfl, rfl, rfl, trivial⟩, (by (repeat (first|exact aH _ _ _|refine ay rfl ?_|refine av rfl ?_|refine ak rfl ?_|refine ao rfl ?_)))⟩; done)
  | skip
 have hla2 := bO (l := la) (k := i) (by omega)
 have hlb2 := bO (l := lb) (k := i) (by omega)
 refine bx rfl (rt rfl) ⟨S ++ [cy % 4294967296], o2, c2, by rw [List.length_append, hS]; rfl, ⟨hO2.sl, by have := hO2.cap; simp; omega, hL.snoc (Nat.mod_lt _ (by decide)), by simp; omega⟩, ?_, hO.grow_ex hg2 hE (Nat.le_refl _)⟩
 show natOf (S ++ [cy % 4294967296]) = _
 rw [dk, hS, Nat.mod_eq_of_lt (by omega), Nat.mul_comm, hN, hla2, hlb2]
set_option maxHeartbeats 2000000 in
theorem dR {la lb : List Nat} {a b : Option Addr} {c d : Nat} {w : World} (ha : Limbs w a c la) (hb : Limbs w b d lb) (hab : natOf lb ≤ natOf la) (cb : Canon lb) (_ca : Canon la) :
  CallsR Tryz.prog 134 #[.slice a la.length c, .slice b lb.length d] w (RetM w fun ls => natOf ls = natOf la - natOf lb) := by
 have hll : lb.length ≤ la.length := cO cb (Nat.lt_of_le_of_lt hab (bM ha.lim))
 have hlen := ha.len
 refine aF (args := [_, _]) Tryz.func134 rfl rfl ?_
 repeat' (first|refine ai rfl ?_|refine aa ?_|refine aj ?_|refine ah rfl ?_|refine ae ?_|refine aA ?_)
 refine aY (ι := Nat × List Nat × Nat × Option Addr × Nat) [5, 6, 7, 8, 9, 10, 11, 12, 13, 14, 15, 16, 17, 18, 19, 20, 21, 22, 23, 24, 25, 26, 27, 28, 29, 30, 31, 32, 33, 34, 35, 36, 37, 38, 39, 40, 41, 42, 43, 44] (fun s => [(7, .int .i64 (s.1 : Int)), (5, .slice s.2.2.2.1 s.1 s.2.2.2.2), (6, .int .u64 (s.2.2.1 : Int))])
  (fun s w' => s.1 ≤ la.length ∧ s.2.1.length = s.1 ∧ Own w' w.heap.size 113 1 s.2.2.2.1 s.1 s.2.2.2.2 (limbsL s.2.1) ∧ Lim s.2.1 ∧ s.2.2.1 ≤ 1 ∧ natOf s.2.1 + natOf (lb.take s.1) = natOf (la.take s.1) + s.2.2.1 * 4294967296 ^ s.1 ∧ Ex w w')
  (fun s => la.length - s.1) (0, [], 0, none, 0) ⟨rfl, rfl, rfl, trivial⟩ ⟨by simp, rfl, Own.nil _ _ _ _, by intro d hd; simp at hd, by simp, by simp [natOf], Ex.refl _⟩ ?_
 rintro ⟨i, S, br, o, cap⟩ ξ w1 ⟨hi, hS, hO, hL, hbr, hN, hE⟩
 simp only at hi hS hO hL hbr hN
 show CW _ _ _ _ (over [(7, .int .i64 (i : Int)), (5, .slice o i cap), (6, .int .u64 (br : Int))] _) w1
 have ha1 := ha.ext hE
 have hb1 := hb.ext hE
 have hxa := ha.lim.getD i
 have hxb := hb.lim.getD i
 have zb : lb.length ≤ i → lb.getD i 0 = 0 := fun h => by rw [List.getD_eq_getElem?_getD, List.getElem?_eq_none h]; rfl
 have fin : ∀ (v br' : Nat) (o' : Option Addr) (cap' : Nat) (w2 : World), i < la.length → (lb.getD i 0 + br ≤ la.getD i 0 ∧ v = la.getD i 0 - (lb.getD i 0 + br) ∧ br' = 0 ∨ la.getD i 0 < lb.getD i 0 + br ∧ v = 4294967296 + la.getD i 0 - (lb.getD i 0 + br) ∧ br' = 1) → Own w2 w.heap.size 113 1 o' (i + 1) cap' (limbsL (S ++ [v])) → w1.grownBy w2 (Value.slice o i cap).ownBlock →
   (i + 1 ≤ la.length ∧ (S ++ [v]).length = i + 1 ∧ Own w2 w.heap.size 113 1 o' (i + 1) cap' (limbsL (S ++ [v])) ∧ Lim (S ++ [v]) ∧ br' ≤ 1 ∧ natOf (S ++ [v]) + natOf (lb.take (i + 1)) = natOf (la.take (i + 1)) + br' * 4294967296 ^ (i + 1) ∧ Ex w w2) := by
  intro v br' o' cap' w2 hii hv hO' hg
  refine ⟨by omega, by simp [hS], hO', hL.snoc (by omega), by omega, ?_, hO.grow_ex hg hE (Nat.le_refl _)⟩
  subst hS
  rw [bL, bL]
  have hst := qS (a := la.getD S.length 0) (x := lb.getD S.length 0) hN
  rcases hv with ⟨h1, rfl, rfl⟩ | ⟨h1, rfl, rfl⟩
  ·rw [hst.1 h1, Nat.zero_mul]; rfl
  ·rw [hst.2 (by omega)]
 repeat' (first|(refine aD rfl rfl (ha1.sl.plain (by simp; omega)) (by omega) ?_)|refine bG rfl ha1.sl (by omega) ?_|(refine aD rfl rfl (hb1.sl.plain (by simp; omega)) (by omega) ?_)|refine bG rfl hb1.sl (by omega) ?_|refine gH rfl (by assumption) ?_|refine fG rfl rfl (by omega) ?_|refine dC rfl ?_|refine oe rfl rfl (by omega) ?_|refine me rfl rfl rfl rfl hO (by omega) (by omega) hE.size (fun gx o2 c2 w2 hO2 hg2 hA2 => ?_)|refine bG rfl (ha.ext (hO.grow_ex hg2 hE (Nat.le_refl _))).sl (by omega) ?_|refine ai rfl ?_|refine aa ?_|refine aj ?_|refine ah rfl ?_|refine ae ?_|refine aZ rfl ?_|refine bc rfl rfl (by omega) (by omega) ?_|refine aO rfl (fun hc => ?_) (fun hc => ?_)|refine aA ?_|refine aP ?_|refine aJ ?_|refine aQ ?_|refine aL ?_|refine aI ?_|refine aE ?_)
 all_goals first
  | (refine ⟨⟨(i + 1, _, 1, o2, c2), fin _ 1 o2 c2 w2 (by omega) (by omega) hO2 hg2, by simp only; omega, rfl, rfl, rfl, trivial⟩, (by (repeat (first|exact aH _ _ _|refine ay rfl ?_|refine av rfl ?_|refine ak rfl ?_|refine ao rfl ?_)))⟩; done)
  | (refine ⟨⟨(i + 1, _, 0, o2, c2), fin _ 0 o2 c2 w2 (by omega) (by omega) hO2 hg2, by simp only; omega, rfl, rfl, rfl, trivial⟩, (by (repeat (first|exact aH _ _ _|refine ay rfl ?_|refine av rfl ?_|refine ak rfl ?_|refine ao rfl ?_)))⟩; done)
  | skip
 have hla2 := bO (l := la) (k := i) (by omega)
 have hlb2 := bO (l := lb) (k := i) (by omega)
 have hi2 : i = la.length := by omega
 have hlt : natOf S < 4294967296 ^ i := by rw [← hS]; exact bM hL
 rw [hla2, hlb2] at hN
 have hbr0 : br = 0 := by
  rcases Nat.eq_zero_or_pos br with h | h
  ·exact h
  ·have : br = 1 := by omega
   rw [this, Nat.one_mul] at hN
   omega
 rw [hbr0, Nat.zero_mul] at hN
 refine bx rfl (rt rfl) ⟨S, o, cap, by rw [hS]; rfl, ⟨hO.sl, by have := hO.cap; omega, hL, by omega⟩, ?_, hE⟩
 show natOf S = _
 omega
end Go.Proofs.YtiejljicpinheaaGreat
namespace Go.Proofs.YtiejljicpinheaaGreat
open Go.W Go.LM
theorem fr {k : Nat} {v : Value} {x : Int} {w : World} (h1 : IntK k w v x) : CallsR Tryz.prog 82 #[v] w (RetZ w (-x)) := by
 obtain ⟨n1, a1, c1, l1, rfl, hL1, rfl, _⟩ := h1
 refine aF (args := [_]) Tryz.func82 rfl rfl ?_
 refine aj ?_
 refine ah rfl ?_
 refine bH rfl (fun g1 w1 hn1 => ⟨fun _ _ => trivial, ?_⟩)
 refine aG (fun g2 w2 hn2 => ⟨fun _ _ => trivial, ?_⟩)
 have hb1 := hn1.blk.ext hn2.ex
 have hb2 : Blk w2 g2 43 (intL false none 0 0) := hn2.blk
 have hE := hn1.ex.trans hn2.ex
 repeat' (first|refine aW rfl hb1 rfl ?_|refine qg rfl ?_|refine aa ?_|refine aj ?_|refine ah rfl ?_|refine ae ?_|refine aN rfl ?_)
 refine aw (bn (hL1.ext hE) _) rfl ?_
 rintro v w3 ⟨hI, hE3⟩
 obtain ⟨ng, a', c', ls, rfl, hI'⟩ := id hI
 refine ⟨fun _ _ => trivial, ?_⟩
 refine ax (n := 2) rfl rfl rfl rfl (hb2.ext hE3) rfl (fun w4 hc4 hb4 => ⟨fun _ _ => trivial, ?_⟩)
 repeat' (first|refine aa ?_|refine ae ?_|refine aI ?_)
 have l2 := hn2.lo
 have l2' := hn2.hi
 have s1 := hn1.ex.size
 refine bx rfl (rc rfl rfl hb4) ⟨?_, (hE.trans hE3).chg hc4 (by omega)⟩
 have hr := (hI.chg hc4 (by omega)).mono (lo' := w.heap.size) (by omega)
 have e : sgn (!n1) (natOf l1) = -sgn n1 (natOf l1) := by unfold sgn; cases n1 <;> simp
 rwa [e] at hr
theorem cj {k : Nat} {v : Value} {x : Int} {w : World} (h1 : IntK k w v x) : CallsR Tryz.prog 32 #[v] w fun r w' => r = .int .i64 x.sign ∧ Ex w w' := by
 obtain ⟨n1, a1, c1, l1, rfl, hL1, rfl, _⟩ := h1
 refine aF (args := [_]) Tryz.func32 rfl rfl ?_
 repeat' (first|refine bH rfl (fun g1 w1 hn1 => ⟨fun _ _ => trivial, ?_⟩)|refine aW rfl hn1.blk rfl ?_|refine ai rfl ?_|refine aa ?_|refine aj ?_|refine ah rfl ?_|refine ae ?_|refine aN rfl ?_|refine aA ?_)
 refine aw (bZ (hL1.ext hn1.ex)) rfl ?_
 rintro v w2 ⟨a2, c2, rfl, hL2, hf2, hE2⟩
 refine ⟨fun _ _ => trivial, ?_⟩
 have hb2 := hn1.blk.ext hE2
 have hz : (trimL l1).length = 0 ↔ natOf l1 = 0 := by
  rw [← cC]
  exact List.length_eq_zero_iff
 repeat' (first|refine aW rfl hb2 rfl ?_|refine ai rfl ?_|refine aa ?_|refine aj ?_|refine ah rfl ?_|refine ae ?_|refine aZ rfl ?_|refine aN rfl ?_|refine aO rfl (fun hc => ?_) (fun hc => ?_)|refine fW rfl (fun hc => ?_) (fun hc => ?_)|refine aL ?_|refine aI ?_|refine aU ?_|refine bQ ?_|refine aE ?_)
 ·refine bx rfl (rt rfl) ⟨?_, hn1.ex.trans hE2⟩
  have : natOf l1 = 0 := hz.1 (by omega)
  rw [this]; cases n1 <;> rfl
 ·refine bx rfl (rt rfl) ⟨?_, hn1.ex.trans hE2⟩
  have : natOf l1 ≠ 0 := fun e => by have := hz.2 e; omega
  subst_vars
  show Value.int .i64 (-1) = _
  rw [show (sgn true (natOf l1)).sign = -1 by unfold sgn; rw [if_pos rfl]; exact Int.sign_eq_neg_one_of_neg (by omega)]
 ·refine bx rfl (rt rfl) ⟨?_, hn1.ex.trans hE2⟩
  have : natOf l1 ≠ 0 := fun e => by have := hz.2 e; omega
  subst_vars
  show Value.int .i64 1 = _
  rw [show (sgn false (natOf l1)).sign = 1 by unfold sgn; rw [if_neg (by decide)]; exact Int.sign_eq_one_of_pos (by omega)]
theorem jR {m n : Nat} : 0 ≤ cmpZ m n ↔ n ≤ m := by
 unfold cmpZ
 split
 ·constructor <;> intro h <;> omega
 ·split
  ·constructor <;> intro h <;> omega
  ·constructor <;> intro h <;> omega
theorem fv {p q : Nat} {v1 v2 : Value} {x y : Int} {w : World} (h1 : IntK p w v1 x) (h2 : IntK q w v2 y) (hp : p < 17592186044416) (hq : q < 17592186044416) :
  CallsR Tryz.prog 106 #[v1, v2] w (RetZ w (x + y)) := by
 obtain ⟨n1, a1, c1, l1, rfl, hL1, rfl, hp1⟩ := h1
 obtain ⟨n2, a2, c2, l2, rfl, hL2, rfl, hq1⟩ := h2
 have tl1 := cF l1
 have tl2 := cF l2
 refine aF (args := [_, _]) Tryz.func106 rfl rfl ?_
 refine aj ?_
 refine ah rfl ?_
 refine bH rfl (fun g2 w2 hn2 => ⟨fun _ _ => trivial, ?_⟩)
 refine bH rfl (fun g3 w3 hn3 => ⟨fun _ _ => trivial, ?_⟩)
 refine aG (fun g4 w4 hn4 => ⟨fun _ _ => trivial, ?_⟩)
 have hb2 := (hn2.blk.ext hn3.ex).ext hn4.ex
 have hb3 := hn3.blk.ext hn4.ex
 have hb4 : Blk w4 g4 43 (intL false none 0 0) := hn4.blk
 have hE := (hn2.ex.trans hn3.ex).trans hn4.ex
 have l4 := hn4.lo
 have l4' := hn4.hi
 have s3 := (hn2.ex.trans hn3.ex).size
 have s4 := hE.size
 repeat' (first|refine aa ?_|refine aj ?_|refine ae ?_)
 refine bi (late := []) (plan := [(0, none), (1, none), (3, none), (4, none), (2, some true), (5, some true), (6, none), (7, none)]) (fun w' => Ex w4 w') bA (by kernel_rfl) (Ex.refl w4).drew ?_
 have hE4d : Ex w4 w4.drew := (Ex.refl w4).drew
 repeat' (first|refine aW rfl (fun _ h => hb2.ext h) rfl ?_|refine aW rfl (fun _ h => hb3.ext h) rfl ?_|refine aN rfl ?_)
 refine aw (bZ (hL1.ext (hE.trans hE4d))) rfl ?_
 rintro v w6 ⟨a6, c6, rfl, hL6, hf6, hE6⟩
 refine ⟨fun _ h => h.trans hE6, ?_⟩
 refine aw (bZ (hL2.ext ((hE.trans hE4d).trans hE6))) rfl ?_
 rintro v w7 ⟨a7, c7, rfl, hL7, hf7, hE7⟩
 refine ⟨fun _ h => h.trans hE7, ?_⟩
 have hE47 : Ex w4 w7 := (hE4d.trans hE6).trans hE7
 have hL67 := hL6.ext hE7
 have hb27 := hb2.ext hE47
 have hb37 := hb3.ext hE47
 have hE7d : Ex w7 w7.drew := (Ex.refl w7).drew
 have hE47d := hE47.trans hE7d
 have fin : ∀ {ng nn : Bool} {ls : List Nat} {m : Nat} {w9 w10 : World} {v : Value}, Ex w7 w9 → IntC w9.heap.size w10 v (sgn nn m) → Ex w9 w10 → ∀ w11, Chg g4 w10 w11 → sgn nn m = sgn n1 (natOf l1) + sgn n2 (natOf l2) → RetZ w (sgn n1 (natOf l1) + sgn n2 (natOf l2)) v w11 := by
  intro ng nn ls m w9 w10 v hE9 hI hE10 w11 hc11 he
  have s9 := (hE47.trans hE9).size
  refine ⟨?_, ((hE.trans hE47).trans (hE9.trans hE10)).chg hc11 (by omega)⟩
  rw [← he]
  exact (hI.chg hc11 (by omega)).mono (by omega)
 repeat' (first|refine aW rfl hb27 rfl ?_|refine aW rfl hb37 rfl ?_|refine ai rfl ?_|refine aa ?_|refine aj ?_|refine ah rfl ?_|refine ae ?_|refine aN rfl ?_|refine lY rfl rfl ?_|refine aO rfl (fun hc => ?_) (fun hc => ?_)|refine aE ?_)
 ·refine bi (late := [5, 6]) (plan := [(0, none), (1, none), (2, none), (3, none), (4, some true), (5, some false), (6, some false)]) (fun w' => Ex w7 w') bA (by kernel_rfl) hE7d ?_
  repeat' (first|refine aW rfl (fun _ h => hb27.ext h) rfl ?_|refine ai rfl ?_|refine aN rfl ?_)
  refine aw (m8 (hL67.ext hE7d) (hL7.ext hE7d) (by omega) (by omega)) rfl ?_
  rintro v w9 ⟨ls, a9, c9, rfl, hL9, hv9, hE9⟩
  refine ⟨fun _ h => h.trans hE9, ?_⟩
  skip
  refine aw (bn hL9 _) rfl ?_
  rintro v w10 ⟨hI, hE10⟩
  obtain ⟨ng, a', c', ls', rfl, hI'⟩ := id hI
  refine ⟨fun _ h => h.trans hE10, ?_⟩
  refine ax (n := 2) rfl rfl rfl rfl (hb4.ext ((hE47d.trans hE9).trans hE10)) rfl (fun w11 hc11 hb11 => ⟨fun h => (nomatch h), ?_⟩)
  repeat' (first|refine aa ?_|refine ae ?_|refine aI ?_|refine aU ?_)
  refine bx rfl (rc rfl rfl hb11) (fin (ng := ng) (ls := ls) (hE7d.trans hE9) hI hE10 w11 hc11 ?_)
  have hv : natOf ls = natOf l1 + natOf l2 := by rw [show natOf ls = _ from hv9, bh, bh]
  rw [hv]; subst_vars; unfold sgn; split <;> omega
 ·refine aw (fp hL67 hL7 (bB _) (bB _)) rfl ?_
  rintro v w8 ⟨rfl, hE8⟩
  refine ⟨fun _ _ => trivial, ?_⟩
  have hE8d := hE8.drew
  have hE48d := hE47.trans hE8d
  rw [bh, bh]
  have hge := jR (m := natOf l1) (n := natOf l2)
  repeat' (first|refine ai rfl ?_|refine aa ?_|refine aj ?_|refine ae ?_|refine aO rfl (fun hc => ?_) (fun hc => ?_)|refine aE ?_)
  ·refine bi (late := [5, 6]) (plan := [(0, none), (1, none), (2, none), (3, none), (4, some true), (5, some false), (6, some false)]) (fun w' => Ex w7 w') bA (by kernel_rfl) hE8d ?_
   repeat' (first|refine aW rfl (fun _ h => hb27.ext h) rfl ?_|refine ai rfl ?_|refine aN rfl ?_)
   refine aw (dR (hL67.ext hE8d) (hL7.ext hE8d) (by rw [bh, bh]; omega) (bB _) (bB _)) rfl ?_
   rintro v w9 ⟨ls, a9, c9, rfl, hL9, hv9, hE9⟩
   refine ⟨fun _ h => h.trans hE9, ?_⟩
   skip
   refine aw (bn hL9 _) rfl ?_
   rintro v w10 ⟨hI, hE10⟩
   obtain ⟨ng, a', c', ls', rfl, hI'⟩ := id hI
   refine ⟨fun _ h => h.trans hE10, ?_⟩
   refine ax (n := 2) rfl rfl rfl rfl (hb4.ext ((hE48d.trans hE9).trans hE10)) rfl (fun w11 hc11 hb11 => ⟨fun h => (nomatch h), ?_⟩)
   repeat' (first|refine aa ?_|refine ae ?_|refine aI ?_|refine aU ?_)
   refine bx rfl (rc rfl rfl hb11) (fin (ng := ng) (ls := ls) (hE8d.trans hE9) hI hE10 w11 hc11 ?_)
   have hv : natOf ls = natOf l1 - natOf l2 := by rw [show natOf ls = _ from hv9, bh, bh]
   rw [hv]; unfold sgn; cases n1 <;> cases n2 <;> simp at * <;> omega
  ·refine bi (late := [5, 6]) (plan := [(0, none), (1, none), (2, none), (3, none), (4, some true), (5, some false), (6, some false)]) (fun w' => Ex w7 w') bA (by kernel_rfl) hE8d ?_
   repeat' (first|refine aW rfl (fun _ h => hb37.ext h) rfl ?_|refine ai rfl ?_|refine aN rfl ?_)
   refine aw (dR (hL7.ext hE8d) (hL67.ext hE8d) (by rw [bh, bh]; omega) (bB _) (bB _)) rfl ?_
   rintro v w9 ⟨ls, a9, c9, rfl, hL9, hv9, hE9⟩
   refine ⟨fun _ h => h.trans hE9, ?_⟩
   skip
   refine aw (bn hL9 _) rfl ?_
   rintro v w10 ⟨hI, hE10⟩
   obtain ⟨ng, a', c', ls', rfl, hI'⟩ := id hI
   refine ⟨fun _ h => h.trans hE10, ?_⟩
   refine ax (n := 2) rfl rfl rfl rfl (hb4.ext ((hE48d.trans hE9).trans hE10)) rfl (fun w11 hc11 hb11 => ⟨fun h => (nomatch h), ?_⟩)
   repeat' (first|refine aa ?_|refine ae ?_|refine aI ?_)
   refine bx rfl (rc rfl rfl hb11) (fin (ng := ng) (ls := ls) (hE8d.trans hE9) hI hE10 w11 hc11 ?_)
   have hv : natOf ls = natOf l2 - natOf l1 := by rw [show natOf ls = _ from hv9, bh, bh]
   rw [hv]; unfold sgn; cases n1 <;> cases n2 <;> simp at * <;> omega
theorem m9 {a b : Nat} (h : a ≤ b) : (4294967296 : Nat) ^ a ≤ 4294967296 ^ b := Nat.pow_le_pow_right (by decide) h
theorem ew {p q : Nat} {v1 v2 : Value} {x y : Int} {w : World} (h1 : IntK p w v1 x) (h2 : IntK q w v2 y) (hp : p < 17592186044416) (hq : q < 17592186044416) :
  CallsR Tryz.prog 71 #[v1, v2] w (RetZ w (x - y)) := by
 obtain ⟨vs1, rfl, hvl1, hvo1⟩ := h1.out
 obtain ⟨vs2, rfl, hvl2, hvo2⟩ := h2.out
 refine aF (args := [_, _]) Tryz.func71 rfl rfl ?_
 refine aj ?_
 refine ah rfl ?_
 refine bH rfl (fun g2 w2 hn2 => ⟨fun _ _ => trivial, ?_⟩)
 refine bH rfl (fun g3 w3 hn3 => ⟨fun _ _ => trivial, ?_⟩)
 refine aG (fun g4 w4 hn4 => ⟨fun _ _ => trivial, ?_⟩)
 have hb2 := (hn2.blk.ext hn3.ex).ext hn4.ex
 have hb3 := hn3.blk.ext hn4.ex
 have hb4 : Blk w4 g4 43 (intL false none 0 0) := hn4.blk
 have hE := (hn2.ex.trans hn3.ex).trans hn4.ex
 have l4 := hn4.lo
 have l4' := hn4.hi
 have s3 := (hn2.ex.trans hn3.ex).size
 have s4 := hE.size
 repeat' (first|refine aa ?_|refine aj ?_|refine ae ?_)
 have hE4d : Ex w4 w4.drew := (Ex.refl w4).drew
 refine bi (late := [4]) (plan := [(0, none), (1, none), (2, some true), (3, some true), (4, some false)]) (fun w' => Ex w4 w') bA (by kernel_rfl) hE4d ?_
 repeat' (first|refine aR rfl (fun _ h => hb2.ext h) hvl1 ?_|refine aR rfl (fun _ h => hb3.ext h) hvl2 ?_)
 refine aw (fr (h2.ext (hE.trans hE4d))) rfl ?_
 rintro v w5 ⟨hI5, hE5⟩
 refine ⟨fun _ h => h.trans hE5, ?_⟩
 skip
 have hlt : (-y).natAbs < 4294967296 ^ q := by rw [Int.natAbs_neg]; exact h2.lt
 refine aw (fv (h1.ext ((hE.trans hE4d).trans hE5)) (hI5.k hlt) hp hq) rfl ?_
 rintro v w6 ⟨hI6, hE6⟩
 obtain ⟨vs6, rfl, hvl6, hvo6⟩ := hI6.out
 refine ⟨fun _ h => h.trans hE6, ?_⟩
 refine ax (n := 2) rfl rfl hvl6 hvo6 (hb4.ext ((hE4d.trans hE5).trans hE6)) rfl (fun w7 hc7 hb7 => ⟨fun h => (nomatch h), ?_⟩)
 repeat' (first|refine aa ?_|refine ae ?_|refine aI ?_)
 have s5 := (hE4d.trans hE5).size
 refine bx rfl (rc rfl hvl6 hb7) ⟨?_, ((hE.trans ((hE4d.trans hE5).trans hE6))).chg hc7 (by omega)⟩
 have := (hI6.chg hc7 (by omega)).mono (lo' := w.heap.size) (by omega)
 rwa [← Int.sub_eq_add_neg] at this
end Go.Proofs.YtiejljicpinheaaGreat
namespace Go.LM
theorem qT (j : Nat) : (2 : Nat) ^ (32 * j) = 4294967296 ^ j := by rw [Nat.pow_mul]
theorem nc : ∀ {l : List Nat} {j s : Nat}, Lim l → s < 32 → natOf l / 2 ^ (32 * j + s) % 2 = l.getD j 0 / 2 ^ s % 2
 | [], j, s, _, _ => by simp [natOf]
 | d :: l, 0, s, h, hs => by
  have hT : 4294967296 = 2 ^ s * (2 * 2 ^ (31 - s)) := by rw [← Nat.pow_succ', ← Nat.pow_add, show s + (31 - s + 1) = 32 by omega]
  have hS : 0 < 2 ^ s := Nat.two_pow_pos s
  show (d + 4294967296 * natOf l) / 2 ^ (32 * 0 + s) % 2 = d / 2 ^ s % 2
  rw [show 32 * 0 + s = s by omega]
  generalize 2 ^ s = S at *
  generalize 2 ^ (31 - s) = T at *
  rw [hT, Nat.mul_assoc, Nat.add_mul_div_left _ _ hS, Nat.mul_assoc, Nat.add_mul_mod_self_left]
 | d :: l, j + 1, s, h, hs => by
  have hd : d < 4294967296 := h d (by simp)
  have ih := nc (l := l) (j := j) (s := s) (fun x hx => h x (by simp [hx])) hs
  show (d + 4294967296 * natOf l) / 2 ^ (32 * (j + 1) + s) % 2 = (d :: l).getD (j + 1) 0 / 2 ^ s % 2
  rw [List.getD_cons_succ, ← ih, show 32 * (j + 1) + s = 32 + (32 * j + s) by omega, Nat.pow_add, ← Nat.div_div_eq_div_mul, show (2 : Nat) ^ 32 = 4294967296 from rfl,
   Nat.add_mul_div_left _ _ (by decide), Nat.div_eq_of_lt hd, Nat.zero_add]
theorem nd : ∀ {l : List Nat} {j t : Nat}, Lim l → t ≤ 32 → natOf l % 2 ^ (32 * j + t) = 0 → l.getD j 0 % 2 ^ t = 0
 | [], j, t, _, _, _ => by simp
 | d :: l, 0, t, h, ht, h0 => by
  have hT : 4294967296 = 2 ^ t * 2 ^ (32 - t) := by rw [← Nat.pow_add, show t + (32 - t) = 32 by omega]
  show d % 2 ^ t = 0
  have h1 : (d + 4294967296 * natOf l) % 2 ^ (32 * 0 + t) = 0 := h0
  rw [show 32 * 0 + t = t by omega] at h1
  generalize 2 ^ t = S at *
  rw [hT, Nat.mul_assoc, Nat.add_mul_mod_self_left] at h1
  exact h1
 | d :: l, j + 1, t, h, ht, h0 => by
  have hd : d < 4294967296 := h d (by simp)
  rw [List.getD_cons_succ]
  refine nd (fun x hx => h x (by simp [hx])) ht ?_
  have h1 : (d + 4294967296 * natOf l) % 2 ^ (32 * (j + 1) + t) = 0 := h0
  rw [show 32 * (j + 1) + t = 32 + (32 * j + t) by omega, Nat.pow_add, show (2 : Nat) ^ 32 = 4294967296 from rfl] at h1
  generalize 2 ^ (32 * j + t) = S at *
  obtain ⟨q, hq⟩ := Nat.dvd_of_mod_eq_zero h1
  rw [Nat.mul_assoc] at hq
  have : natOf l = S * q := by omega
  rw [this, Nat.mul_mod_right]
theorem sn {Q : List Nat} {i : Nat} (hL : Lim Q) (hi : i / 32 < Q.length) (h0 : natOf Q % 2 ^ (i + 1) = 0) :
  natOf (Q.set (i / 32) (Q.getD (i / 32) 0 ||| 2 ^ (i % 32))) = natOf Q + 2 ^ i ∧ Q.getD (i / 32) 0 ||| 2 ^ (i % 32) < 4294967296 := by
 have hlt := hL.getD (i / 32)
 have hm : Q.getD (i / 32) 0 % 2 ^ (i % 32 + 1) = 0 := nd hL (by omega) (by rw [show 32 * (i / 32) + (i % 32 + 1) = i + 1 by omega]; exact h0)
 have hor : Q.getD (i / 32) 0 ||| 2 ^ (i % 32) = Q.getD (i / 32) 0 + 2 ^ (i % 32) := by
  obtain ⟨q, hq⟩ := Nat.dvd_of_mod_eq_zero hm
  rw [hq]
  exact (Nat.two_pow_add_eq_or_of_lt (Nat.pow_lt_pow_right (by decide) (by omega)) q).symm
 constructor
 ·have h1 := cH (l := Q) (v := Q.getD (i / 32) 0 ||| 2 ^ (i % 32)) hi
  rw [hor, Nat.add_mul] at h1
  rw [hor]
  have e : 2 ^ (i % 32) * 4294967296 ^ (i / 32) = 2 ^ i := by rw [← qT, ← Nat.pow_add, show i % 32 + 32 * (i / 32) = i by omega]
  rw [e] at h1
  omega
 ·exact Nat.or_lt_two_pow (n := 32) hlt (Nat.pow_lt_pow_right (by decide) (by omega))
theorem sr {N i d A b : Nat} (hd : 0 < d) (hA : A = N / 2 ^ (i + 1)) (hb : b = N / 2 ^ i % 2) :
  (2 * (A % d) + b < d → N / 2 ^ i % d = 2 * (A % d) + b ∧ N / 2 ^ i / d * 2 ^ i = A / d * 2 ^ (i + 1)) ∧
  (d ≤ 2 * (A % d) + b → N / 2 ^ i % d = 2 * (A % d) + b - d ∧ N / 2 ^ i / d * 2 ^ i = A / d * 2 ^ (i + 1) + 2 ^ i) := by
 have e : N / 2 ^ i = 2 * A + b := by subst hA hb; rw [Nat.pow_succ, ← Nat.div_div_eq_div_mul]; omega
 have hb2 : b < 2 := by omega
 have hr := Nat.mod_lt A hd
 have hq := Nat.div_add_mod A d
 rw [e]
 clear e hA hb
 generalize A % d = r0 at *
 generalize A / d = q at *
 constructor
 ·intro h
  have e2 : 2 * A + b = (2 * r0 + b) + d * (2 * q) := by grind
  rw [e2, Nat.add_mul_mod_self_left, Nat.add_mul_div_left _ _ hd, Nat.mod_eq_of_lt h, Nat.div_eq_of_lt h]
  exact ⟨rfl, by rw [Nat.pow_succ]; grind⟩
 ·intro h
  obtain ⟨t, ht⟩ : ∃ t, 2 * r0 + b = d + t := ⟨2 * r0 + b - d, by omega⟩
  have e2 : 2 * A + b = t + d * (2 * q + 1) := by grind
  have h3 : t < d := by omega
  rw [e2, Nat.add_mul_mod_self_left, Nat.add_mul_div_left _ _ hd, Nat.mod_eq_of_lt h3, Nat.div_eq_of_lt h3, ht]
  exact ⟨by omega, by rw [Nat.pow_succ]; grind⟩
theorem pA {x b : Nat} (hb : b ≤ 1) : ((x <<< 1) % 4294967296 ||| b) = (b + 2 * x) % 4294967296 ∧ x >>> 31 = (b + 2 * x) / 4294967296 := by
 have e : (x <<< 1) % 4294967296 = 2 ^ 1 * (x % 2147483648) := by rw [Nat.shiftLeft_eq]; omega
 rw [e, ← Nat.two_pow_add_eq_or_of_lt (show b < 2 ^ 1 by omega), Nat.shiftRight_eq_div_pow]
 omega
theorem kw {N D : Nat} (hD : 0 < D) :
  ((N : Int) / (D : Int) = ((N / D : Nat) : Int) ∧ (N : Int) % (D : Int) = ((N % D : Nat) : Int)) ∧
  ((N : Int) / (-(D : Int)) = -((N / D : Nat) : Int) ∧ (N : Int) % (-(D : Int)) = ((N % D : Nat) : Int)) ∧
  (N % D = 0 → (-(N : Int)) / (D : Int) = -((N / D : Nat) : Int) ∧ (-(N : Int)) % (D : Int) = 0 ∧ (-(N : Int)) / (-(D : Int)) = ((N / D : Nat) : Int) ∧ (-(N : Int)) % (-(D : Int)) = 0) ∧
  (N % D ≠ 0 → (-(N : Int)) / (D : Int) = -((N / D : Nat) : Int) - 1 ∧ (-(N : Int)) % (D : Int) = (D : Int) - ((N % D : Nat) : Int) ∧ (-(N : Int)) / (-(D : Int)) = ((N / D : Nat) : Int) + 1 ∧ (-(N : Int)) % (-(D : Int)) = (D : Int) - ((N % D : Nat) : Int)) := by
 have h1 := Nat.div_add_mod N D
 have h2 := Nat.mod_lt N hD
 have un : ∀ {x y q r : Int}, y ≠ 0 → 0 ≤ r → r < y.natAbs → x = y * q + r → x / y = q ∧ x % y = r := by
  intro x y q r hy h0 hr he
  have hm : x % y = r := by
   rw [he, Int.mul_add_emod_self_left]
   rcases Int.lt_or_lt_of_ne hy with h | h
   ·rw [← Int.emod_neg]; exact Int.emod_eq_of_lt h0 (by omega)
   ·exact Int.emod_eq_of_lt h0 (by omega)
  refine ⟨?_, hm⟩
  have := Int.mul_ediv_add_emod x y
  rw [hm] at this
  have h3 : y * (x / y) = y * q := by omega
  exact Int.eq_of_mul_eq_mul_left hy h3
 generalize N / D = q at *
 generalize N % D = r at *
 have hN : (N : Int) = (D : Int) * q + r := by rw [← h1]; simp
 refine ⟨un (by omega) (by omega) (by omega) hN, un (by omega) (by omega) (by omega) (by rw [hN]; grind), fun h0 => ?_, fun h0 => ?_⟩
 ·subst h0
  have a := un (x := -(N : Int)) (y := (D : Int)) (q := -(q : Int)) (r := 0) (by omega) (by omega) (by omega) (by rw [hN]; grind)
  have b := un (x := -(N : Int)) (y := -(D : Int)) (q := (q : Int)) (r := 0) (by omega) (by omega) (by omega) (by rw [hN]; grind)
  exact ⟨a.1, a.2, b.1, b.2⟩
 ·have a := un (x := -(N : Int)) (y := (D : Int)) (q := -(q : Int) - 1) (r := (D : Int) - r) (by omega) (by omega) (by omega) (by rw [hN]; grind)
  have b := un (x := -(N : Int)) (y := -(D : Int)) (q := (q : Int) + 1) (r := (D : Int) - r) (by omega) (by omega) (by omega) (by rw [hN]; grind)
  exact ⟨a.1, a.2, b.1, b.2⟩
end Go.LM
