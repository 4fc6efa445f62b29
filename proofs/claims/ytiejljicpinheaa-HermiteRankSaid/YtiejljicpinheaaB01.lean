import Derived.Test.YtiejljicpinheaaA05
namespace Go.W
open Go.RowKit (Below)
section
variable {P : Program} {w : World}
end
section
variable {P : Program} {S : World → Prop} {ops : List Oper} {K : Env → World → Prop} {rest : List (Oper × Option Bool)} {ρ : Env} {w : World} {b : Option Bool} {kf : Bool} {d : Nat} {T T' : TypeId} {pos : String} {af : Array Edge}
section
variable {x y : Operand} {k : IntKind} {m m' : Int} {T'' : TypeId}
end
section
variable {x y : Operand} {m m' : Int} {T'' : TypeId}
variable {k : IntKind}
theorem pT (hx : ev ρ x = .int .i64 m) (hy : ev ρ y = .int .i64 m') (h1 : 0 ≤ m) (h2 : 0 < m') (h3 : m ≤ 9223372036854775807)
  (h : RR P S ops K rest (upd ρ d (.int .i64 (m / m'))) w) : RR P S ops K ((⟨some d, .binOp .quo T' x y T'', T, pos, af, none⟩, b) :: rest) ρ w :=
 eg hx hy (by
  have e : m.tdiv m' = m / m' := Int.tdiv_eq_ediv_of_nonneg h1
  have b1 : 0 ≤ m / m' := Int.ediv_nonneg h1 (by omega)
  have b2 : m / m' ≤ m := Int.ediv_le_self _ h1
  have h0 : m' ≠ 0 := by omega
  simp [binOp, Op.intDiv, h0, e, dg (m := m / m') (by omega) (by omega)]) h
end
theorem sC {x y : Operand} {k : IntKind} {m m' : Nat} {T'' : TypeId} (hx : ev ρ x = .int k (m : Int)) (hy : ev ρ y = .int k (m' : Int)) (hk : k.signed = false) (hm : m < 2 ^ k.bits) (hm' : m' < 2 ^ k.bits)
  (h : RR P S ops K rest (upd ρ d (.int k ((m &&& m' : Nat) : Int))) w) : RR P S ops K ((⟨some d, .binOp .and T' x y T'', T, pos, af, none⟩, b) :: rest) ρ w :=
 iK (f := fun a b => a &&& b) hk (fun a b ha hb => by
  simp only [Op.intBits, iL, BitVec.toNat_and, BitVec.toNat_ofNat, Nat.mod_eq_of_lt hm, Nat.mod_eq_of_lt hm'])
  (by simp [binOp]) hm hm' (Nat.lt_of_le_of_lt Nat.and_le_left hm) hx hy h
end
end Go.W
namespace Go.Proofs.Ytiejljicpinheaa
open Go.W
instance s58 : Scal Try.prog 58 := ⟨by kernel_rfl, by kernel_rfl⟩
instance c14 : Fun Try.prog 14 := ⟨by kernel_rfl⟩
instance c16 : Fun Try.prog 16 := ⟨by kernel_rfl⟩
instance c19 : Fun Try.prog 19 := ⟨by kernel_rfl⟩
instance c36 : Fun Try.prog 36 := ⟨by kernel_rfl⟩
instance c37 : Fun Try.prog 37 := ⟨by kernel_rfl⟩
instance c38 : Fun Try.prog 38 := ⟨by kernel_rfl⟩
instance c41 : Fun Try.prog 41 := ⟨by kernel_rfl⟩
instance c66 : Fun Try.prog 66 := ⟨by kernel_rfl⟩
instance c67 : Fun Try.prog 67 := ⟨by kernel_rfl⟩
instance c69 : Fun Try.prog 69 := ⟨by kernel_rfl⟩
instance c98 : Fun Try.prog 98 := ⟨by kernel_rfl⟩
instance c109 : Fun Try.prog 109 := ⟨by kernel_rfl⟩
instance c110 : Fun Try.prog 110 := ⟨by kernel_rfl⟩
end Go.Proofs.Ytiejljicpinheaa
namespace Go.LA
theorem InL.mat {rows cols : Nat} {H H' : Mat} {v : Vec} (h : InL rows cols H v) (he : ∀ r c, r < rows → c < cols → H r c = H' r c) : InL rows cols H' v := by
 obtain ⟨x, hx⟩ := h
 exact ⟨x, fun r hr => by rw [hx r hr]; exact cX (fun j hj => he r j hr hj) fun _ _ => rfl⟩
end Go.LA
namespace Go.Proofs.Ytiejljicpinheaa
open Go.W Go.LM
theorem Limbs.drew {w : World} {a : Option Addr} {c : Nat} {ls : List Nat} (h : Limbs w a c ls) : Limbs w.drew a c ls := ⟨h.sl.drew, h.cap, h.lim, h.len⟩
end Go.Proofs.Ytiejljicpinheaa
namespace Go.W
section
variable {P : Program} {S : World → Prop} {ops : List Oper} {K : Env → World → Prop} {rest : List (Oper × Option Bool)} {ρ : Env} {w : World} {b : Option Bool} {kf : Bool} {d : Nat} {dst : Option Nat} {T T' : TypeId} {pos : String} {af : Array Edge}
variable {x y : Operand} {k : IntKind} {m m' : Int} {T'' : TypeId}
end
end Go.W
namespace Go.W
end Go.W
namespace Go.W
theorem oA {P : Program} {S : World → Prop} {ops : List Oper} {K : Env → World → Prop} {rest : List (Oper × Option Bool)} {ρ : Env} {w : World} {b : Option Bool} {d : Nat} {T T' : TypeId} {pos : String} {af : Array Edge}
  {x : Operand} {f ft off : Nat} {cs : List Value} {v : Value} (hf : (match P.underlying T' with | some (.struct fs) => (fs[f]?).map (fun g => (g.type, g.offset)) | _ => none) = some (ft, off)) [Scal P ft]
  (hx : ev ρ x = .agg cs.toArray) (hv : cs[off]? = some v) (h : RR P S ops K rest (upd ρ d v) w) : RR P S ops K ((⟨some d, .field T' x f, T, pos, af, none⟩, b) :: rest) ρ w := by
 refine bY rfl (fun w' => ?_) h
 split at hf
 ·rename_i fs hfs
  obtain ⟨g, hg, e⟩ := Option.map_eq_some_iff.1 hf
  simp only [Prod.mk.injEq] at e
  have ha := fY (P := P) (w := w') (T := ft)
  simp [execOp, Instr.field, hx, underlying, hfs, hg, asAgg, part, e.1, e.2, ha, hv]
 ·cases hf
end Go.W
namespace Go.Proofs.Ytiejljicpinheaa
open Go.W Go.LM
theorem jd {ls : List Nat} {a : Option Addr} {c : Nat} {w : World} (h : Limbs w a c ls) (h2 : ls.length ≤ 2) :
  CallsR Try.prog 109 #[.slice a ls.length c] w fun v w' => v = .int .u64 ((natOf ls : Nat) : Int) ∧ Ex w w' := by
 refine aG (args := [_]) Try.func109 rfl rfl ?_
 repeat' (first|refine ai rfl ?_|refine aa ?_|refine aj ?_|refine ah rfl ?_|refine ae ?_|refine aB ?_)
 refine aW (ι := Nat) [3, 4, 5, 6, 7, 8, 9, 10, 11, 12, 13, 14, 15, 16, 17, 18, 19, 20, 21, 22, 23, 24] (fun k => [(4, .int .i64 (k : Int)), (3, .int .u64 ((natOf (ls.take k) : Nat) : Int))]) (fun k w' => k ≤ ls.length ∧ w' = w) (fun k => ls.length - k) 0 ⟨rfl, rfl, trivial⟩ ⟨by simp, rfl⟩ ?_
 rintro k ξ w2 ⟨hk, rfl⟩
 have hlt := bL (h.lim.take k)
 have hd := h.lim.getD k
 repeat' (first|(refine aD rfl rfl (h.sl.plain (by simp; omega)) (by omega) ?_)|refine bE rfl h.sl (by omega) ?_|refine du rfl (dh (by omega) (by omega)) ?_|refine jG rfl rfl (by omega) (by omega) ?_|refine ai rfl ?_|refine aa ?_|refine aj ?_|refine ah rfl ?_|refine ae ?_|refine aY rfl ?_|refine bG rfl rfl ?_|refine bP rfl rfl ?_|refine em rfl rfl (fun hc => ?_) (fun hc => ?_)|refine ay rfl ?_|refine aM rfl (fun hc => ?_) (fun hc => ?_)|refine aB ?_|refine aS ?_|refine aL ?_|refine aT ?_|refine aK ?_|refine aF ?_)
 all_goals try (exfalso; omega)
 ·refine iM (j := 32 * k) rfl rfl rfl (by simp only [IntKind.bits]; omega) ?_
  have hkk : k = 0 ∨ k = 1 := by omega
  have hsh : (ls.getD k 0 <<< (32 * k)) % 2 ^ IntKind.u64.bits = ls.getD k 0 <<< (32 * k) := Nat.mod_eq_of_lt (by
   rw [Nat.shiftLeft_eq]; rcases hkk with rfl | rfl <;> simp only [IntKind.bits] <;> omega)
  have hsh2 : ls.getD k 0 <<< (32 * k) < 18446744073709551616 := by rw [Nat.shiftLeft_eq]; rcases hkk with rfl | rfl <;> omega
  have hlt' : natOf (ls.take k) < 2 ^ (32 * k) := by
   simp only [List.length_take, Nat.min_eq_left hk] at hlt
   rcases hkk with rfl | rfl <;> simpa using hlt
  rw [hsh]
  refine jH rfl rfl rfl (by simp only [IntKind.bits]; rcases hkk with rfl | rfl <;> omega) hsh2 ?_
  repeat' (first|refine ai rfl ?_|refine aa ?_|refine ah rfl ?_|refine ae ?_|refine bi rfl rfl (by omega) (by omega) ?_|refine aJ ?_)
  refine ⟨⟨k + 1, ⟨by omega, rfl⟩, by omega, rfl, ?_, trivial⟩, (by (repeat (first|exact aH _ _ _|refine ax rfl ?_|refine av rfl ?_|refine ak rfl ?_|refine ao rfl ?_)))⟩
  show Value.int .u64 _ = _
  congr 2
  have e := dL (ls := ls) (k := k + 1) (by omega) (by omega)
  rw [Nat.add_sub_cancel] at e
  rw [e, cU, Nat.or_comm, ← Nat.shiftLeft_add_eq_or_of_lt hlt', Nat.shiftLeft_eq]
  simp only [List.length_take, Nat.min_eq_left hk]
  rcases hkk with rfl | rfl <;> omega
 all_goals
  obtain rfl : k = ls.length := by omega
  refine bB rfl (rt rfl) ⟨?_, Ex.refl _⟩
  show Value.int .u64 _ = _
  rw [List.take_length]
end Go.Proofs.Ytiejljicpinheaa
namespace Go.Proofs.Ytiejljicpinheaa
open Go.W Go.LM
theorem io {lo : Nat} {v : Value} {x : Int} {w : World} (h1 : IntC lo w v x) : CallsR Try.prog 66 #[v] w fun r w' => r = .int .i64 x.sign ∧ Ex w w' := by
 obtain ⟨n1, a1, c1, l1, rfl, hL1, rfl, hc1, g1, _⟩ := h1
 have htr : trimL l1 = l1 := hc1
 refine aG (args := [_]) Try.func66 rfl rfl ?_
 repeat' (first|refine bH rfl (fun g1 w1 hn1 => ⟨fun _ _ => trivial, ?_⟩)|refine aU rfl hn1.blk rfl ?_|refine ai rfl ?_|refine aa ?_|refine aj ?_|refine ah rfl ?_|refine ae ?_|refine aP rfl ?_|refine aB ?_)
 refine aw (cc (hL1.ext hn1.ex)) rfl ?_
 rw [htr]
 rintro v w2 ⟨a2, c2, rfl, hL2, hf2, hE2⟩
 refine ⟨fun _ _ => trivial, ?_⟩
 have hb2 := hn1.blk.ext hE2
 have hz : l1.length = 0 ↔ natOf l1 = 0 := by
  constructor
  ·intro h; rw [List.eq_nil_of_length_eq_zero h]; rfl
  ·intro h; have := cj.2 h; rw [htr] at this; rw [this]; rfl
 repeat' (first|refine aU rfl hb2 rfl ?_|refine ai rfl ?_|refine aa ?_|refine aj ?_|refine ah rfl ?_|refine ae ?_|refine aY rfl ?_|refine aP rfl ?_|refine aM rfl (fun hc => ?_) (fun hc => ?_)|refine fF rfl (fun hc => ?_) (fun hc => ?_)|refine aJ ?_|refine aK ?_|refine aX ?_|refine b6 ?_|refine aF ?_)
 ·refine bB rfl (rt rfl) ⟨?_, hn1.ex.trans hE2⟩
  have : natOf l1 = 0 := hz.1 (by omega)
  rw [this]; cases n1 <;> rfl
 ·refine bB rfl (rt rfl) ⟨?_, hn1.ex.trans hE2⟩
  have : natOf l1 ≠ 0 := fun e => by have := hz.2 e; omega
  subst_vars
  show Value.int .i64 (-1) = _
  rw [show (sgn true (natOf l1)).sign = -1 by unfold sgn; rw [if_pos rfl]; exact Int.sign_eq_neg_one_of_neg (by omega)]
 ·refine bB rfl (rt rfl) ⟨?_, hn1.ex.trans hE2⟩
  have : natOf l1 ≠ 0 := fun e => by have := hz.2 e; omega
  subst_vars
  show Value.int .i64 1 = _
  rw [show (sgn false (natOf l1)).sign = 1 by unfold sgn; rw [if_neg (by decide)]; exact Int.sign_eq_one_of_pos (by omega)]
end Go.Proofs.Ytiejljicpinheaa
namespace Go.Proofs.Ytiejljicpinheaa
open Go.W Go.PM Go.LM
def blkS (v : Value) : Option Nat := match v with
 | .slice (some ad) (_ + 1) _ => some ad.block
 | _ => none
def blkOf (v : Value) : Option Nat := match v with
 | .agg cs => (cs[1]?).bind blkS
 | _ => none
def Off (g : Nat) (v : Value) : Prop := blkOf v ≠ some g
theorem IntC.lo {lo : Nat} {w : World} {v : Value} {z : Int} (h : IntC lo w v z) {g : Nat} (hg : blkOf v = some g) : lo ≤ g ∧ g < w.heap.size := by
 obtain ⟨neg, a, c, ls, rfl, hl, _, _, _, h6⟩ := h
 cases a with
 | none => simp [blkOf, blkS] at hg
 | some ad => cases ls with
  | nil => simp [blkOf, blkS] at hg
  | cons x t =>
   simp [blkOf, blkS] at hg
   subst hg
   refine ⟨h6 ad rfl, ?_⟩
   have := World.block_lt_of_cell? w _ (hl.sl.get 0 (by simp))
   exact this
theorem IntC.off_lo {lo g : Nat} {w : World} {v : Value} {z : Int} (h : IntC lo w v z) (hg : g < lo) : Off g v := fun e => by have := (h.lo e).1; omega
theorem IntC.off_hi {lo g : Nat} {w : World} {v : Value} {z : Int} (h : IntC lo w v z) (hg : w.heap.size ≤ g) : Off g v := fun e => by have := (h.lo e).2; omega
theorem IntC.chgO {lo g : Nat} {w w' : World} {v : Value} {z : Int} (h : IntC lo w v z) (e : Chg g w w') (hg : Off g v) : IntC lo w' v z := by
 obtain ⟨neg, a, c, ls, rfl, h2, h3, h4, h5, h6⟩ := h
 cases ls with
 | nil => exact ⟨neg, a, c, [], rfl, Limbs.nil _ _ _, h3, h4, h5, h6⟩
 | cons x t => exact ⟨neg, a, c, x :: t, rfl, h2.chg e (fun ad ea => by subst ea; intro e2; exact hg (by simp [blkOf, blkS, e2])), h3, h4, h5, h6⟩
theorem IntC.zero (lo : Nat) (w : World) : IntC lo w (.agg (intL false none 0 0).toArray) 0 := ⟨false, none, 0, [], rfl, Limbs.nil _ _ _, rfl, rfl, by simp, by simp⟩
end Go.Proofs.Ytiejljicpinheaa
namespace Go.Proofs.Ytiejljicpinheaa
open Go.W Go.LM
theorem b9 (n : Nat) : sgn false n = n := rfl
theorem IntC.limbs {lo : Nat} {w : World} {v : Value} {n : Nat} (h : IntC lo w v (n : Int)) : ∃ a c ls, v = .agg (intL false a ls.length c).toArray ∧ Limbs w a c ls ∧ natOf ls = n ∧ Canon ls ∧ ∀ ad, a = some ad → lo ≤ ad.block := by
 obtain ⟨n1, a1, c1, l1, rfl, hL1, e1, hc1, g1, h6⟩ := h
 cases n1
 ·exact ⟨a1, c1, l1, rfl, hL1, by simp only [sgn, Bool.false_eq_true, if_false] at e1; omega, hc1, h6⟩
 ·exfalso
  have := cj.2 (show natOf l1 = 0 by simp [sgn] at e1; omega)
  rw [hc1] at this; exact g1 rfl this
theorem fV {la lb : List Nat} {a b : Option Addr} {c d : Nat} {w : World} (ha : Limbs w a c la) (hb : Limbs w b d lb) (h2 : la.length ≤ 2) (h3 : lb.length ≤ 2) (hpos : 0 < natOf lb) :
  CallsR Try.prog 98 #[.slice a la.length c, .slice b lb.length d] w fun v w' => ∃ a1 c1 l1 a2 c2 l2, v = .tuple #[.slice a1 (List.length l1) c1, .slice a2 (List.length l2) c2] ∧
   Limbs w' a1 c1 l1 ∧ Limbs w' a2 c2 l2 ∧ natOf l1 = natOf la / natOf lb ∧ natOf l2 = natOf la % natOf lb ∧ Ex w w' := by
 have h64a : natOf la < 18446744073709551616 := by
  have := bL ha.lim
  have := dP (a := la.length) (b := 2) h2
  omega
 have h64b : natOf lb < 18446744073709551616 := by
  have := bL hb.lim
  have := dP (a := lb.length) (b := 2) h3
  omega
 refine aG (args := [_, _]) Try.func98 rfl rfl ?_
 repeat' (first|refine nD rfl rfl (by omega) ?_|refine ai rfl ?_|refine aa ?_|refine aj ?_|refine ah rfl ?_|refine ae ?_|refine aY rfl ?_|refine bG rfl rfl ?_|refine aC rfl ?_)
 refine aw (jd ha h2) rfl ?_
 rintro v w1 ⟨rfl, hE1⟩
 refine ⟨fun _ _ => trivial, ?_⟩
 repeat' (first|refine ai rfl ?_)
 refine aw (jd (hb.ext hE1) h3) rfl ?_
 rintro v w2 ⟨rfl, hE2⟩
 refine ⟨fun _ _ => trivial, ?_⟩
 repeat' (first|refine ai rfl ?_|refine aa ?_|refine aj ?_|refine ae ?_)
 have hE := hE1.trans hE2
 refine bn (late := [3, 8]) (plan := [(0, none), (1, none), (2, none), (5, none), (6, none), (7, none), (3, some false), (4, none), (8, some false), (9, none), (10, none), (11, none)]) (fun w' => Ex w w') bC (by kernel_rfl) hE.drew ?_
 repeat' (first|refine nm rfl rfl (by omega) (by omega) (by omega) ?_|refine ib rfl rfl (by omega) (by omega) ?_|refine ai rfl ?_)
 refine aw (ep (n := natOf la / natOf lb) (Nat.lt_of_le_of_lt (Nat.div_le_self _ _) h64a) false _) rfl ?_
 rintro v w3 ⟨hz3, hE3⟩
 refine ⟨fun _ h => h.trans hE3, ?_⟩
 rw [b9] at hz3
 obtain ⟨a3, c3, l3, rfl, hL3, hn3, _, _⟩ := hz3.limbs
 repeat' (first|refine oA (ft := 47) (off := 1) (by kernel_rfl) rfl rfl ?_)
 refine aw (ep (n := natOf la % natOf lb) (Nat.lt_of_le_of_lt (Nat.mod_le _ _) h64a) false _) rfl ?_
 rintro v w4 ⟨hz4, hE4⟩
 refine ⟨fun _ h => h.trans hE4, ?_⟩
 rw [b9] at hz4
 obtain ⟨a4, c4, l4, rfl, hL4, hn4, _, _⟩ := hz4.limbs
 repeat' (first|refine oA (ft := 47) (off := 1) (by kernel_rfl) rfl rfl ?_|refine ai rfl ?_|refine aa ?_|refine ae ?_|refine aK ?_|refine aX ?_)
 exact cR rfl (rt rfl) (rt rfl) ⟨a3, c3, l3, a4, c4, l4, rfl, hL3.ext hE4, hL4, hn3, hn4, (hE.drew.trans hE3).trans hE4⟩
end Go.Proofs.Ytiejljicpinheaa
namespace Go.LM
end Go.LM
namespace Go.W
section
variable {P : Program} {S : World → Prop} {ops : List Oper} {K : Env → World → Prop} {rest : List (Oper × Option Bool)} {ρ : Env} {w : World} {b : Option Bool} {kf : Bool} {d : Nat} {dst : Option Nat} {T T' : TypeId} {pos : String} {af : Array Edge}
end
end Go.W
namespace Go.Proofs.Ytiejljicpinheaa
open Go.W Go.LM
theorem IntK.out {k : Nat} {w : World} {v : Value} {z : Int} (h : IntK k w v z) : ∃ cs : List Value, v = .agg cs.toArray ∧ cs.length = 2 ∧ cs.all Value.oneCell' = true := by
 obtain ⟨neg, a, c, ls, rfl, _⟩ := h; exact ⟨_, rfl, rfl, rfl⟩
end Go.Proofs.Ytiejljicpinheaa
namespace Go.Proofs.Ytiejljicpinheaa
open Go.W Go.LM
theorem mK {k : Nat} {v : Value} {x : Int} {w : World} (h1 : IntK k w v x) : CallsR Try.prog 69 #[v] w (RetZ w (-x)) := by
 obtain ⟨n1, a1, c1, l1, rfl, hL1, rfl, _⟩ := h1
 refine aG (args := [_]) Try.func69 rfl rfl ?_
 refine aj ?_
 refine ah rfl ?_
 refine bH rfl (fun g1 w1 hn1 => ⟨fun _ _ => trivial, ?_⟩)
 refine aE (fun g2 w2 hn2 => ⟨fun _ _ => trivial, ?_⟩)
 have hb1 := hn1.blk.ext hn2.ex
 have hb2 : Blk w2 g2 49 (intL false none 0 0) := hn2.blk
 have hE := hn1.ex.trans hn2.ex
 repeat' (first|refine aU rfl hb1 rfl ?_|refine pN rfl ?_|refine aa ?_|refine aj ?_|refine ah rfl ?_|refine ae ?_|refine aP rfl ?_)
 refine aw (bf (hL1.ext hE) _) rfl ?_
 rintro v w3 ⟨hI, hE3⟩
 obtain ⟨ng, a', c', ls, rfl, hI'⟩ := id hI
 refine ⟨fun _ _ => trivial, ?_⟩
 refine au (n := 2) rfl rfl rfl rfl (hb2.ext hE3) rfl (fun w4 hc4 hb4 => ⟨fun _ _ => trivial, ?_⟩)
 repeat' (first|refine aa ?_|refine ae ?_|refine aK ?_)
 have l2 := hn2.lo
 have l2' := hn2.hi
 have s1 := hn1.ex.size
 refine bB rfl (rc rfl rfl hb4) ⟨?_, (hE.trans hE3).chg hc4 (by omega)⟩
 have hr := (hI.chg hc4 (by omega)).mono (lo' := w.heap.size) (by omega)
 have e : sgn (!n1) (natOf l1) = -sgn n1 (natOf l1) := by unfold sgn; cases n1 <;> simp
 rwa [e] at hr
theorem kr {k : Nat} {v : Value} {x : Int} {w : World} (h1 : IntK k w v x) : CallsR Try.prog 66 #[v] w fun r w' => r = .int .i64 x.sign ∧ Ex w w' := by
 obtain ⟨n1, a1, c1, l1, rfl, hL1, rfl, _⟩ := h1
 refine aG (args := [_]) Try.func66 rfl rfl ?_
 repeat' (first|refine bH rfl (fun g1 w1 hn1 => ⟨fun _ _ => trivial, ?_⟩)|refine aU rfl hn1.blk rfl ?_|refine ai rfl ?_|refine aa ?_|refine aj ?_|refine ah rfl ?_|refine ae ?_|refine aP rfl ?_|refine aB ?_)
 refine aw (cc (hL1.ext hn1.ex)) rfl ?_
 rintro v w2 ⟨a2, c2, rfl, hL2, hf2, hE2⟩
 refine ⟨fun _ _ => trivial, ?_⟩
 have hb2 := hn1.blk.ext hE2
 have hz : (trimL l1).length = 0 ↔ natOf l1 = 0 := by
  rw [← cj]
  exact List.length_eq_zero_iff
 repeat' (first|refine aU rfl hb2 rfl ?_|refine ai rfl ?_|refine aa ?_|refine aj ?_|refine ah rfl ?_|refine ae ?_|refine aY rfl ?_|refine aP rfl ?_|refine aM rfl (fun hc => ?_) (fun hc => ?_)|refine fF rfl (fun hc => ?_) (fun hc => ?_)|refine aJ ?_|refine aK ?_|refine aX ?_|refine b6 ?_|refine aF ?_)
 ·refine bB rfl (rt rfl) ⟨?_, hn1.ex.trans hE2⟩
  have : natOf l1 = 0 := hz.1 (by omega)
  rw [this]; cases n1 <;> rfl
 ·refine bB rfl (rt rfl) ⟨?_, hn1.ex.trans hE2⟩
  have : natOf l1 ≠ 0 := fun e => by have := hz.2 e; omega
  subst_vars
  show Value.int .i64 (-1) = _
  rw [show (sgn true (natOf l1)).sign = -1 by unfold sgn; rw [if_pos rfl]; exact Int.sign_eq_neg_one_of_neg (by omega)]
 ·refine bB rfl (rt rfl) ⟨?_, hn1.ex.trans hE2⟩
  have : natOf l1 ≠ 0 := fun e => by have := hz.2 e; omega
  subst_vars
  show Value.int .i64 1 = _
  rw [show (sgn false (natOf l1)).sign = 1 by unfold sgn; rw [if_neg (by decide)]; exact Int.sign_eq_one_of_pos (by omega)]
theorem mL {a b : Nat} (h : a ≤ b) : (4294967296 : Nat) ^ a ≤ 4294967296 ^ b := Nat.pow_le_pow_right (by decide) h
theorem mM {p q : Nat} {v1 v2 : Value} {x y : Int} {w : World} (h1 : IntK p w v1 x) (h2 : IntK q w v2 y) (hp : p < 17592186044416) (hq : q < 17592186044416) :
  CallsR Try.prog 38 #[v1, v2] w (RetZ w (x - y)) := by
 obtain ⟨vs1, rfl, hvl1, hvo1⟩ := h1.out
 obtain ⟨vs2, rfl, hvl2, hvo2⟩ := h2.out
 refine aG (args := [_, _]) Try.func38 rfl rfl ?_
 refine aj ?_
 refine ah rfl ?_
 refine bH rfl (fun g2 w2 hn2 => ⟨fun _ _ => trivial, ?_⟩)
 refine bH rfl (fun g3 w3 hn3 => ⟨fun _ _ => trivial, ?_⟩)
 refine aE (fun g4 w4 hn4 => ⟨fun _ _ => trivial, ?_⟩)
 have hb2 := (hn2.blk.ext hn3.ex).ext hn4.ex
 have hb3 := hn3.blk.ext hn4.ex
 have hb4 : Blk w4 g4 49 (intL false none 0 0) := hn4.blk
 have hE := (hn2.ex.trans hn3.ex).trans hn4.ex
 have l4 := hn4.lo
 have l4' := hn4.hi
 have s3 := (hn2.ex.trans hn3.ex).size
 have s4 := hE.size
 repeat' (first|refine aa ?_|refine aj ?_|refine ae ?_)
 have hE4d : Ex w4 w4.drew := (Ex.refl w4).drew
 refine bn (late := [4]) (plan := [(0, none), (1, none), (2, some true), (3, some true), (4, some false)]) (fun w' => Ex w4 w') bC (by kernel_rfl) hE4d ?_
 repeat' (first|refine aR rfl (fun _ h => hb2.ext h) hvl1 ?_|refine aR rfl (fun _ h => hb3.ext h) hvl2 ?_)
 refine aw (mK (h2.ext (hE.trans hE4d))) rfl ?_
 rintro v w5 ⟨hI5, hE5⟩
 refine ⟨fun _ h => h.trans hE5, ?_⟩
 skip
 have hlt : (-y).natAbs < 4294967296 ^ q := by rw [Int.natAbs_neg]; exact h2.lt
 refine aw (e7 (h1.ext ((hE.trans hE4d).trans hE5)) (hI5.k hlt) hp hq) rfl ?_
 rintro v w6 ⟨hI6, hE6⟩
 obtain ⟨vs6, rfl, hvl6, hvo6⟩ := hI6.out
 refine ⟨fun _ h => h.trans hE6, ?_⟩
 refine au (n := 2) rfl rfl hvl6 hvo6 (hb4.ext ((hE4d.trans hE5).trans hE6)) rfl (fun w7 hc7 hb7 => ⟨fun h => (nomatch h), ?_⟩)
 repeat' (first|refine aa ?_|refine ae ?_|refine aK ?_)
 have s5 := (hE4d.trans hE5).size
 refine bB rfl (rc rfl hvl6 hb7) ⟨?_, ((hE.trans ((hE4d.trans hE5).trans hE6))).chg hc7 (by omega)⟩
 have := (hI6.chg hc7 (by omega)).mono (lo' := w.heap.size) (by omega)
 rwa [← Int.sub_eq_add_neg] at this
end Go.Proofs.Ytiejljicpinheaa
namespace Go.LM
theorem qx (j : Nat) : (2 : Nat) ^ (32 * j) = 4294967296 ^ j := by rw [Nat.pow_mul]
theorem mN : ∀ {l : List Nat} {j s : Nat}, Lim l → s < 32 → natOf l / 2 ^ (32 * j + s) % 2 = l.getD j 0 / 2 ^ s % 2
 | [], j, s, _, _ => by simp [natOf]
 | d :: l, 0, s, h, hs => by
  have hT : 4294967296 = 2 ^ s * (2 * 2 ^ (31 - s)) := by rw [← Nat.pow_succ', ← Nat.pow_add, show s + (31 - s + 1) = 32 by omega]
  have hS : 0 < 2 ^ s := Nat.two_pow_pos s
  show (d + 4294967296 * natOf l) / 2 ^ (32 * 0 + s) % 2 = d / 2 ^ s % 2
  rw [show 32 * 0 + s = s by omega]
  generalize 2 ^ s = S at *
  generalize 2 ^ (31 - s) = T at *
  rw [hT, Nat.mul_assoc, Nat.add_mul_div_left _ _ hS, Nat.mul_assoc, Nat.add_mul_mod_self_left]
 | d :: l, j + 1, s, h, hs => by
  have hd : d < 4294967296 := h d (by simp)
  have ih := mN (l := l) (j := j) (s := s) (fun x hx => h x (by simp [hx])) hs
  show (d + 4294967296 * natOf l) / 2 ^ (32 * (j + 1) + s) % 2 = (d :: l).getD (j + 1) 0 / 2 ^ s % 2
  rw [List.getD_cons_succ, ← ih, show 32 * (j + 1) + s = 32 + (32 * j + s) by omega, Nat.pow_add, ← Nat.div_div_eq_div_mul, show (2 : Nat) ^ 32 = 4294967296 from rfl,
   Nat.add_mul_div_left _ _ (by decide), Nat.div_eq_of_lt hd, Nat.zero_add]
theorem mO : ∀ {l : List Nat} {j t : Nat}, Lim l → t ≤ 32 → natOf l % 2 ^ (32 * j + t) = 0 → l.getD j 0 % 2 ^ t = 0
 | [], j, t, _, _, _ => by simp
 | d :: l, 0, t, h, ht, h0 => by
  have hT : 4294967296 = 2 ^ t * 2 ^ (32 - t) := by rw [← Nat.pow_add, show t + (32 - t) = 32 by omega]
  show d % 2 ^ t = 0
  have h1 : (d + 4294967296 * natOf l) % 2 ^ (32 * 0 + t) = 0 := h0
  rw [show 32 * 0 + t = t by omega] at h1
  generalize 2 ^ t = S at *
  rw [hT, Nat.mul_assoc, Nat.add_mul_mod_self_left] at h1
  exact h1
 | d :: l, j + 1, t, h, ht, h0 => by
  have hd : d < 4294967296 := h d (by simp)
  rw [List.getD_cons_succ]
  refine mO (fun x hx => h x (by simp [hx])) ht ?_
  have h1 : (d + 4294967296 * natOf l) % 2 ^ (32 * (j + 1) + t) = 0 := h0
  rw [show 32 * (j + 1) + t = 32 + (32 * j + t) by omega, Nat.pow_add, show (2 : Nat) ^ 32 = 4294967296 from rfl] at h1
  generalize 2 ^ (32 * j + t) = S at *
  obtain ⟨q, hq⟩ := Nat.dvd_of_mod_eq_zero h1
  rw [Nat.mul_assoc] at hq
  have : natOf l = S * q := by omega
  rw [this, Nat.mul_mod_right]
theorem rJ {Q : List Nat} {i : Nat} (hL : Lim Q) (hi : i / 32 < Q.length) (h0 : natOf Q % 2 ^ (i + 1) = 0) :
  natOf (Q.set (i / 32) (Q.getD (i / 32) 0 ||| 2 ^ (i % 32))) = natOf Q + 2 ^ i ∧ Q.getD (i / 32) 0 ||| 2 ^ (i % 32) < 4294967296 := by
 have hlt := hL.getD (i / 32)
 have hm : Q.getD (i / 32) 0 % 2 ^ (i % 32 + 1) = 0 := mO hL (by omega) (by rw [show 32 * (i / 32) + (i % 32 + 1) = i + 1 by omega]; exact h0)
 have hor : Q.getD (i / 32) 0 ||| 2 ^ (i % 32) = Q.getD (i / 32) 0 + 2 ^ (i % 32) := by
  obtain ⟨q, hq⟩ := Nat.dvd_of_mod_eq_zero hm
  rw [hq]
  exact (Nat.two_pow_add_eq_or_of_lt (Nat.pow_lt_pow_right (by decide) (by omega)) q).symm
 constructor
 ·have h1 := cA (l := Q) (v := Q.getD (i / 32) 0 ||| 2 ^ (i % 32)) hi
  rw [hor, Nat.add_mul] at h1
  rw [hor]
  have e : 2 ^ (i % 32) * 4294967296 ^ (i / 32) = 2 ^ i := by rw [← qx, ← Nat.pow_add, show i % 32 + 32 * (i / 32) = i by omega]
  rw [e] at h1
  omega
 ·exact Nat.or_lt_two_pow (n := 32) hlt (Nat.pow_lt_pow_right (by decide) (by omega))
theorem rK {N i d A b : Nat} (hd : 0 < d) (hA : A = N / 2 ^ (i + 1)) (hb : b = N / 2 ^ i % 2) :
  (2 * (A % d) + b < d → N / 2 ^ i % d = 2 * (A % d) + b ∧ N / 2 ^ i / d * 2 ^ i = A / d * 2 ^ (i + 1)) ∧
  (d ≤ 2 * (A % d) + b → N / 2 ^ i % d = 2 * (A % d) + b - d ∧ N / 2 ^ i / d * 2 ^ i = A / d * 2 ^ (i + 1) + 2 ^ i) := by
 have e : N / 2 ^ i = 2 * A + b := by subst hA hb; rw [Nat.pow_succ, ← Nat.div_div_eq_div_mul]; omega
 have hb2 : b < 2 := by omega
 have hr := Nat.mod_lt A hd
 have hq := Nat.div_add_mod A d
 rw [e]
 clear e hA hb
 generalize A % d = r0 at *
 generalize A / d = q at *
 constructor
 ·intro h
  have e2 : 2 * A + b = (2 * r0 + b) + d * (2 * q) := by grind
  rw [e2, Nat.add_mul_mod_self_left, Nat.add_mul_div_left _ _ hd, Nat.mod_eq_of_lt h, Nat.div_eq_of_lt h]
  exact ⟨rfl, by rw [Nat.pow_succ]; grind⟩
 ·intro h
  obtain ⟨t, ht⟩ : ∃ t, 2 * r0 + b = d + t := ⟨2 * r0 + b - d, by omega⟩
  have e2 : 2 * A + b = t + d * (2 * q + 1) := by grind
  have h3 : t < d := by omega
  rw [e2, Nat.add_mul_mod_self_left, Nat.add_mul_div_left _ _ hd, Nat.mod_eq_of_lt h3, Nat.div_eq_of_lt h3, ht]
  exact ⟨by omega, by rw [Nat.pow_succ]; grind⟩
theorem o6 {x b : Nat} (hb : b ≤ 1) : ((x <<< 1) % 4294967296 ||| b) = (b + 2 * x) % 4294967296 ∧ x >>> 31 = (b + 2 * x) / 4294967296 := by
 have e : (x <<< 1) % 4294967296 = 2 ^ 1 * (x % 2147483648) := by rw [Nat.shiftLeft_eq]; omega
 rw [e, ← Nat.two_pow_add_eq_or_of_lt (show b < 2 ^ 1 by omega), Nat.shiftRight_eq_div_pow]
 omega
end Go.LM
namespace Go.Proofs.Ytiejljicpinheaa
open Go.W Go.LM
theorem j6 {ls : List Nat} {a : Option Addr} {c bit : Nat} {w : World} (h : Limbs w a c ls) (hl : ls.length < 17592186044416) (hbit : bit ≤ 1) :
  CallsR Try.prog 110 #[.slice a ls.length c, .int .u32 (bit : Int)] w (RetM w fun r => natOf r = 2 * natOf ls + bit) := by
 refine aG (args := [_, _]) Try.func110 rfl rfl ?_
 repeat' (first|refine ai rfl ?_|refine aa ?_|refine aj ?_|refine ah rfl ?_|refine ae ?_|refine aY rfl ?_|refine aB ?_)
 refine aW (ι := Nat × List Nat × Nat × Option Addr × Nat) [1, 5, 7, 10, 11, 12, 13, 14, 15, 16, 17, 18, 19, 20, 21, 22, 23] (fun s => [(10, .int .i64 (s.1 : Int)), (5, .slice s.2.2.2.1 s.1 s.2.2.2.2), (1, .int .u32 (s.2.2.1 : Int))])
  (fun s w' => s.1 ≤ ls.length ∧ s.2.1.length = s.1 ∧ Own w' w.heap.size 94 1 s.2.2.2.1 s.1 s.2.2.2.2 (limbsL s.2.1) ∧ Lim s.2.1 ∧ s.2.2.1 ≤ 1 ∧ natOf s.2.1 + s.2.2.1 * 4294967296 ^ s.1 = 2 * natOf (ls.take s.1) + bit ∧ Ex w w')
  (fun s => ls.length - s.1) (0, [], bit, none, 0) ⟨rfl, rfl, rfl, trivial⟩ ⟨by simp, rfl, Own.nil _ _ _ _, by intro d hd; simp at hd, hbit, by simp [natOf], Ex.refl _⟩ ?_
 rintro ⟨i, S, cy, o, cap⟩ ξ w1 ⟨hi, hS, hO, hL, hcy, hN, hE⟩
 simp only at hi hS hO hL hcy hN
 show CW _ _ _ _ (over [(10, .int .i64 (i : Int)), (5, .slice o i cap), (1, .int .u32 (cy : Int))] _) w1
 have h1 := h.ext hE
 have hx := h.lim.getD i
 have hdd := o6 (x := ls.getD i 0) hcy
 repeat' (first|(refine aD rfl rfl (h1.sl.plain (by simp; omega)) (by omega) ?_)|refine bE rfl h1.sl (by omega) ?_|(refine iM (j := 1) rfl rfl rfl (by simp only [IntKind.bits]; omega) ?_)|(refine jH rfl rfl rfl (Nat.mod_lt _ (by decide)) (by simp only [IntKind.bits]; omega) ?_)|refine fH (j := 31) rfl rfl (.inl rfl) ?_|refine ll rfl rfl rfl rfl hO (by omega) (by omega) hE.size (fun gx o2 c2 w2 hO2 hg2 hA2 => ?_)|refine ai rfl ?_|refine aa ?_|refine aj ?_|refine ah rfl ?_|refine ae ?_|refine bi rfl rfl (by omega) (by omega) ?_|refine aM rfl (fun hc => ?_) (fun hc => ?_)|refine aB ?_|refine aS ?_|refine aL ?_|refine aT ?_|refine aJ ?_|refine aK ?_|refine aF ?_)
 ·have hO3 : Own w2 w.heap.size 94 1 o2 (i + 1) c2 (limbsL (S ++ [(cy + 2 * ls.getD i 0) % 4294967296])) := by rw [← hdd.1]; exact hO2
  refine ⟨⟨(i + 1, S ++ [(cy + 2 * ls.getD i 0) % 4294967296], (cy + 2 * ls.getD i 0) / 4294967296, o2, c2), ⟨by simp only; omega, by simp [hS], hO3, hL.snoc (Nat.mod_lt _ (by decide)), by simp only; omega, ?_, hO.grow_ex hg2 hE (Nat.le_refl _)⟩, by simp only; omega, rfl, rfl, ?_, trivial⟩, (by (repeat (first|exact aH _ _ _|refine ax rfl ?_|refine av rfl ?_|refine ak rfl ?_|refine ao rfl ?_)))⟩
  ·subst hS
   show natOf (S ++ [(cy + 2 * ls.getD S.length 0) % 4294967296]) + _ = _
   rw [kM hN rfl, bK ls, Nat.mul_add, Nat.mul_assoc]
   omega
  ·show Value.int .u32 _ = _
   rw [hdd.2]
 ·have hi2 := bN (l := ls) (k := i) (by omega)
  refine bB rfl (rt rfl) ⟨S ++ [cy], o2, c2, by rw [List.length_append, hS]; rfl, ⟨hO2.sl, by have := hO2.cap; simp; omega, hL.snoc (by omega), by simp; omega⟩, ?_, hO.grow_ex hg2 hE (Nat.le_refl _)⟩
  show natOf (S ++ [cy]) = _
  rw [cU, hS, Nat.mul_comm, hN, hi2]
set_option maxHeartbeats 2000000 in
theorem j7 {la lb : List Nat} {a b : Option Addr} {c d : Nat} {w : World} (ha : Limbs w a c la) (hb : Limbs w b d lb) (hla : la.length < 17592186044416) (hlb : lb.length < 17592186044416) (cb : Canon lb) (hpos : 0 < natOf lb) :
  CallsR Try.prog 98 #[.slice a la.length c, .slice b lb.length d] w fun v w' => ∃ a1 c1 l1 a2 c2 l2, v = .tuple #[.slice a1 (List.length l1) c1, .slice a2 (List.length l2) c2] ∧
   Limbs w' a1 c1 l1 ∧ Limbs w' a2 c2 l2 ∧ natOf l1 = natOf la / natOf lb ∧ natOf l2 = natOf la % natOf lb ∧ Ex w w' := by
 by_cases hsm : la.length ≤ 2 ∧ lb.length ≤ 2
 ·exact fV ha hb hsm.1 hsm.2 hpos
 refine aG (args := [_, _]) Try.func98 rfl rfl ?_
 repeat' (first|refine eo rfl rfl (by omega) (by omega) (fun g w1 hn1 => ⟨fun _ _ => trivial, ?_⟩)|refine jG rfl rfl (by omega) (by omega) ?_|refine ai rfl ?_|refine aa ?_|refine aj ?_|refine ah rfl ?_|refine ae ?_|refine aY rfl ?_|refine bG rfl rfl ?_|refine bP rfl rfl ?_|refine em rfl rfl (fun hc => ?_) (fun hc => ?_)|refine cM rfl rfl (by omega) (by omega) ?_|refine ay rfl ?_|refine aM rfl (fun hc => ?_) (fun hc => ?_)|refine aB ?_|refine aF ?_)
 all_goals try (exfalso; omega)
 all_goals
  refine aW (ι := Nat × List Nat × List Nat × Option Addr × Nat) [5, 8, 38, 39, 40, 41, 42, 43, 44, 45, 46, 47, 48, 49, 50, 51, 52, 53, 54, 55, 56, 57, 58, 59, 60, 61, 62, 63, 64, 65, 66, 67, 68, 69, 70, 71] (fun s => [(8, .int .i64 ((s.1 : Int) - 1)), (5, .slice s.2.2.2.1 s.2.2.1.length s.2.2.2.2)])
   (fun s w' => s.1 ≤ 32 * la.length ∧ Ex w w' ∧ Blk w' g 94 (limbsL s.2.1) ∧ s.2.1.length = la.length ∧ Lim s.2.1 ∧ natOf s.2.1 = natOf la / 2 ^ s.1 / natOf lb * 2 ^ s.1 ∧ Limbs w' s.2.2.2.1 s.2.2.2.2 s.2.2.1 ∧ Canon s.2.2.1 ∧ natOf s.2.2.1 = natOf la / 2 ^ s.1 % natOf lb)
   (fun s => s.1) (32 * la.length, List.replicate la.length 0, [], none, 0) ⟨by first|rfl|(show Value.int .i64 _ = _; congr 1; simp), rfl, trivial⟩ ⟨by simp, hn1.ex, hn1.blk, by simp, Lim.zeros _, ?_, Limbs.nil _ _ _, rfl, ?_⟩ ?_
  ·have hz : natOf la / 2 ^ (32 * la.length) = 0 := Nat.div_eq_of_lt (by rw [qx]; exact bL ha.lim)
   simp only [cL]
   rw [hz]; simp
  ·have hz : natOf la / 2 ^ (32 * la.length) = 0 := Nat.div_eq_of_lt (by rw [qx]; exact bL ha.lim)
   simp only
   rw [hz]; simp [natOf]
  rintro ⟨k, Q, R, o, cap⟩ ξ w2 ⟨hk, hE, hbQ, hQl, hQL, hQn, hR, hRc, hRn⟩
  simp only at hk hbQ hQl hQL hQn hR hRc hRn
  show CW _ _ _ _ (over [(8, .int .i64 ((k : Int) - 1)), (5, .slice o R.length cap)] _) w2
  have hRlt : natOf R < natOf lb := by rw [hRn]; exact Nat.mod_lt _ hpos
  have hRlen : R.length ≤ lb.length := cH hRc (Nat.lt_trans hRlt (bL hb.lim))
  repeat' (first|refine ai rfl ?_|refine aa ?_|refine aj ?_|refine ah rfl ?_|refine ae ?_|refine aM rfl (fun hc => ?_) (fun hc => ?_)|refine aB ?_|refine aS ?_|refine aL ?_|refine aT ?_|refine aF ?_)
  ·obtain ⟨j, rfl⟩ : ∃ j, k = j + 1 := ⟨k - 1, by omega⟩
   rw [show ((j + 1 : Nat) : Int) - 1 = (j : Int) by omega]
   have ha2 := ha.ext hE
   have hb2 := hb.ext hE
   have hbit : (la.getD (j / 32) 0 >>> (j % 32) &&& 1) = natOf la / 2 ^ j % 2 := by
    rw [Nat.and_one_is_mod, Nat.shiftRight_eq_div_pow, ← mN ha.lim (Nat.mod_lt _ (by decide)), show 32 * (j / 32) + j % 32 = j by omega]
   have hla32 := ha.lim.getD (j / 32)
   repeat' (first|refine pT rfl rfl (by omega) (by omega) (by omega) ?_|refine ib rfl rfl (by omega) (by omega) ?_|(refine aD (j := j / 32) rfl (by show Value.int .i64 ((j : Int) / 32) = _; congr 1) (ha2.sl.plain (by simp; omega)) (by omega) ?_)|refine bE rfl ha2.sl (by omega) ?_|(refine fH (j := j % 32) rfl (by show Value.int .i64 ((j : Int) % 32) = _; congr 1) (.inr (by simp only [IntKind.bits]; omega)) ?_)|(refine sC (m' := 1) rfl rfl rfl (Nat.lt_of_le_of_lt (by rw [Nat.shiftRight_eq_div_pow]; exact Nat.div_le_self _ _) hla32) (by decide) ?_)|refine ai rfl ?_)
   refine aw (j6 hR (by omega) (by rw [hbit]; omega)) rfl ?_
   rintro v w3 ⟨l3, a3, c3, rfl, hL3, hv3, hE3⟩
   refine ⟨fun _ _ => trivial, ?_⟩
   refine aw (cc hL3) rfl ?_
   rintro v w4 ⟨a4, c4, rfl, hL4, hf4, hE4⟩
   refine ⟨fun _ _ => trivial, ?_⟩
   have hE24 := hE3.trans hE4
   have hb4 := (hb2.ext hE24)
   have hv4 : natOf (trimL l3) = 2 * (natOf la / 2 ^ (j + 1) % natOf lb) + natOf la / 2 ^ j % 2 := by rw [bc, show natOf l3 = _ from hv3, hRn, hbit]
   have hst := rK (N := natOf la) (i := j) hpos rfl rfl
   have hge := jv (m := natOf (trimL l3)) (n := natOf lb)
   repeat' (first|refine ai rfl ?_|refine aa ?_|refine aj ?_|refine ah rfl ?_|refine ae ?_)
   refine aw (gg hL4 hb4 (bz _) cb) rfl ?_
   rintro v w5 ⟨rfl, hE5⟩
   refine ⟨fun _ _ => trivial, ?_⟩
   have hbQ5 := hbQ.ext (hE24.trans hE5)
   have hQlt := hbQ5.lt
   repeat' (first|refine ai rfl ?_|refine aa ?_|refine aj ?_|refine ah rfl ?_|refine ae ?_|refine cM rfl rfl (by omega) (by omega) ?_|refine aM rfl (fun hc => ?_) (fun hc => ?_)|refine aJ ?_|refine aF ?_)
   ·refine aw (dI (hL4.ext hE5) (hb4.ext hE5) (by omega) cb (bz _)) rfl ?_
    rintro v w6 ⟨l6, a6, c6, rfl, hL6, hv6, hE6⟩
    refine ⟨fun _ _ => trivial, ?_⟩
    refine aw (cc hL6) rfl ?_
    rintro v w7 ⟨a7, c7, rfl, hL7, hf7, hE7⟩
    refine ⟨fun _ _ => trivial, ?_⟩
    have hE67 := hE6.trans hE7
    have hbQ7 := hbQ5.ext hE67
    have s6 := hE6.size
    repeat' (first|refine ai rfl ?_|refine aa ?_|refine ae ?_)
    refine bn (late := [10]) (plan := [(0, none), (1, none), (2, none), (3, none), (4, none), (5, none), (6, none), (7, none), (8, none), (9, none), (10, some false)]) (fun w' => Blk w' g 94 (limbsL Q)) bC (by kernel_rfl) hbQ7.drew ?_
    have hset := rJ (Q := Q) (i := j) hQL (by omega) (by rw [hQn]; exact Nat.mul_mod_left _ _)
    have hsh : (1 <<< (j % 32)) % 2 ^ IntKind.u32.bits = 2 ^ (j % 32) := by
     rw [Nat.one_shiftLeft]; exact Nat.mod_eq_of_lt (Nat.pow_lt_pow_right (by decide) (by simp only [IntKind.bits]; omega))
    repeat' (first|refine pT rfl rfl (by omega) (by omega) (by omega) ?_|refine ib rfl rfl (by omega) (by omega) ?_|(refine aD (j := j / 32) rfl (by show Value.int .i64 ((j : Int) / 32) = _; congr 1) ⟨_, _, rfl⟩ (by omega) ?_)|refine bE rfl (fun _ h => h.sl) (by omega) ?_|(refine iM (m := 1) (j := j % 32) rfl (by show Value.int .i64 ((j : Int) % 32) = _; congr 1) rfl (by simp only [IntKind.bits]; omega) ?_)|refine jH rfl rfl rfl (hQL.getD _) (Nat.mod_lt _ (by decide)) ?_|refine ai rfl ?_)
    rw [hsh]
    refine dk rfl rfl hbQ7.drew (by omega) (fun w8 hc8 hb8 => ⟨fun h => (nomatch h), ?_⟩)
    repeat' (first|refine ai rfl ?_|refine aa ?_|refine ah rfl ?_|refine ae ?_|refine cM rfl rfl (by omega) (by omega) ?_|refine aJ ?_)
    have hd2 := hst.2 (by omega)
    have hE8 := ((hE.trans (hE24.trans hE5)).trans hE67).drew.chg hc8 hn1.lo
    refine ⟨⟨(j, Q.set (j / 32) (Q.getD (j / 32) 0 ||| 2 ^ (j % 32)), trimL l6, a7, c7), ⟨by simp only; omega, hE8, hb8, by simp [hQl], hQL.set hset.2, ?_, hL7.drew.chg hc8 (fun ad e => by have := hf7 ad e; omega), bz _, ?_⟩, by simp only; omega, rfl, rfl, trivial⟩, (by (repeat (first|exact aH _ _ _|refine ax rfl ?_|refine av rfl ?_|refine ak rfl ?_|refine ao rfl ?_)))⟩
    ·simp only
     rw [hset.1, hQn, hd2.2]
    ·simp only
     rw [bc, show natOf l6 = _ from hv6, hv4, hd2.1]
   ·have hd2 := hst.1 (by omega)
    refine ⟨⟨(j, Q, trimL l3, a4, c4), ⟨by simp only; omega, hE.trans (hE24.trans hE5), hbQ5, hQl, hQL, ?_, hL4.ext hE5, bz _, ?_⟩, by simp only; omega, rfl, rfl, trivial⟩, (by (repeat (first|exact aH _ _ _|refine ax rfl ?_|refine av rfl ?_|refine ak rfl ?_|refine ao rfl ?_)))⟩
    ·simp only
     rw [hQn, hd2.2]
    ·simp only
     rw [hv4, hd2.1]
  ·obtain rfl : k = 0 := by omega
   simp only [Nat.pow_zero, Nat.div_one, Nat.mul_one] at hQn hRn
   have hLQ := Limbs.of_blk (c := la.length) hbQ (by omega) hQL (by omega)
   have hcall := cc hLQ
   rw [hQl] at hcall
   refine aw hcall rfl ?_
   rintro v w3 ⟨a3, c3, rfl, hL3, hf3, hE3⟩
   refine ⟨fun _ _ => trivial, ?_⟩
   repeat' (first|refine ai rfl ?_|refine aa ?_|refine ae ?_|refine aK ?_)
   exact cR rfl (rt rfl) (rt rfl) ⟨a3, c3, trimL Q, o, cap, R, rfl, hL3, hR.ext hE3, by rw [bc, hQn], hRn, hE.trans hE3⟩
end Go.Proofs.Ytiejljicpinheaa
