import Derived.Test.YthhfjagnmhhapaaProg
import Derived.Test.YthhfjagnmhhapaaA01
import Derived.Test.YthhfjagnmhhapaaA02
import Derived.Test.YthhfjagnmhhapaaA03
import Derived.Test.YthhfjagnmhhapaaA04
import Derived.Test.YthhfjagnmhhapaaA05
import Derived.Test.YthhfjagnmhhapaaA06
import Derived.Test.YthhfjagnmhhapaaA07
import Derived.Test.YthhfjagnmhhapaaA08
import Derived.Test.YthhfjagnmhhapaaA09
import Derived.Test.YthhfjagnmhhapaaA10
import Derived.Test.YthhfjagnmhhapaaA11
import Derived.Test.YthhfjagnmhhapaaA13
import Derived.Test.YthhfjagnmhhapaaA16
import Derived.Test.YthhfjagnmhhapaaA18
import Derived.Test.YthhfjagnmhhapaaA19
import Derived.Test.YthhfjagnmhhapaaA20
import Derived.Test.YthhfjagnmhhapaaA21
import Derived.Test.YthhfjagnmhhapaaA32

namespace Go.W
open Go.RowKit (Below)

/-! ### Worlds that grow, worlds in which one block has changed -/
/-! all three ways of change in one form: w.grownBy w' r: only block r of the old ones may have changed -/
theorem Sl.gb {w w' : World} {a : Option Addr} {vs : List Value} {r : Option Nat} (h : Sl w a vs) (hg : w.grownBy w' r) (hne : ∀ ad, a = some ad → r ≠ some ad.block) : Sl w' a vs := by
  refine ⟨h.ok, fun j hj => ?_⟩
  have hc := h.get j hj
  obtain ⟨g, o, rfl⟩ := h.plain (by omega)
  rw [World.cell?_of_block (w := w) (a := elt (some ⟨g, o, none⟩) j) (hg.block g (World.block_lt_of_cell? w _ hc) (fun e => hne _ rfl e.symm))]
  exact hc
section
variable {P : Program} {S : World → Prop} {ops : List Oper} {K : Env → World → Prop} {rest : List (Oper × Option Bool)} {ρ : Env} {w : World} {b : Option Bool} {kf : Bool} {d : Nat} {dst : Option Nat} {T T' : TypeId} {pos : String} {af : Array Edge}

/-! out = append(out, x): the literal and the append in one step -/
section
variable {w' w0 : World} {lo T0 s0 n cap : Nat} {a : Option Addr} {vs : List Value}
end

/-! typed reads -/
section
variable {w w' : World} {lo T2 T1 c : Nat} {k : IntKind} {b : Option Addr} {sds : List SD} {xss : List (List Int)}
end
/-! typed stores into a block -/
/-! results -/
variable {fn : Func} {R : Value → World → Prop}
end
end Go.W

namespace Go.Proofs.Ythhfjagnmhhapaa
open Go.W
instance g60 : Agg Try.prog 60 3 := ⟨by kernel_rfl, by kernel_rfl⟩
instance f60_0 : Fld Try.prog 60 0 0 := ⟨by kernel_rfl⟩
instance f60_1 : Fld Try.prog 60 1 1 := ⟨by kernel_rfl⟩
instance f60_2 : Fld Try.prog 60 2 2 := ⟨by kernel_rfl⟩
instance b60 : Str Try.prog 60 [(0, 1), (1, 1), (2, 1)] := ⟨by kernel_rfl⟩
instance z60 : Zro Try.prog 60 (.agg #[.int .i64 0, .slice none 0 0, .slice none 0 0]) := ⟨by kernel_rfl⟩
instance s67 : Scal Try.prog 67 := ⟨by kernel_rfl, by kernel_rfl⟩
instance s68 : Scal Try.prog 68 := ⟨by kernel_rfl, by kernel_rfl⟩
instance z93 : Zro Try.prog 93 (.slice none 0 0) := ⟨by kernel_rfl⟩
instance l108 : Slc Try.prog 108 93 1 24 := ⟨by kernel_rfl, by kernel_rfl⟩
instance c36 : Fun Try.prog 36 := ⟨by kernel_rfl⟩
instance c37 : Fun Try.prog 37 := ⟨by kernel_rfl⟩
instance c38 : Fun Try.prog 38 := ⟨by kernel_rfl⟩
instance c68 : Fun Try.prog 68 := ⟨by kernel_rfl⟩
instance c69 : Fun Try.prog 69 := ⟨by kernel_rfl⟩
instance c70 : Fun Try.prog 70 := ⟨by kernel_rfl⟩
end Go.Proofs.Ythhfjagnmhhapaa

namespace Go.W
section
variable {P : Program} {S : World → Prop} {ops : List Oper} {K : Env → World → Prop} {rest : List (Oper × Option Bool)} {ρ : Env} {w : World} {b : Option Bool} {kf : Bool} {d : Nat} {dst : Option Nat} {T T' : TypeId} {pos : String} {af : Array Edge}
end
end Go.W
namespace Go.W
section
variable {P : Program} {S : World → Prop} {ops : List Oper} {K : Env → World → Prop} {rest : List (Oper × Option Bool)} {ρ : Env} {w : World} {b : Option Bool} {kf : Bool} {d : Nat} {dst : Option Nat} {T T' : TypeId} {pos : String} {af : Array Edge}
end
end Go.W
namespace Go.W
end Go.W
namespace Go.W
section
variable {P : Program} {S : World → Prop} {ops : List Oper} {K : Env → World → Prop} {rest : List (Oper × Option Bool)} {ρ : Env} {w : World} {b : Option Bool} {kf : Bool} {d : Nat} {dst : Option Nat} {T T' : TypeId} {pos : String} {af : Array Edge}
theorem k_eqlI {x y : Operand} {k : IntKind} {m : Int} {T'' : TypeId} (hx : ev ρ x = .int k m) (hy : ev ρ y = .int k m) (h : RR P S ops K rest (upd ρ d (.bool true)) w) : RR P S ops K ((⟨some d, .binOp .eql T' x y T'', T, pos, af, none⟩, b) :: rest) ρ w :=
  k_eql hx hy (by rw [decide_eq_true rfl]; exact h)
end
end Go.W

/- Iterates and cycles of a permutation, in plain mathematics. -/
namespace Go.PM
theorem it_succ (p : List Int) (k : Nat) (x : Int) : it p (k + 1) x = it p k (ap p x) := it_add p 1 x k
/-! the list of the cycles, as the program finds them -/
/-! the same list, as the reference finds it -/
end Go.PM

/- Orbits: what the breadth-first search finds. No program in sight. -/
namespace Go.PM
theorem Reach.trans {gens : List (List Int)} {x y z : Int} (h1 : Reach gens x y) (h2 : Reach gens y z) : Reach gens x z := by
  induction h2 with
  | refl => exact h1
  | step p hp _ ih => exact .step p hp ih
theorem reach_it {gens : List (List Int)} {p : List Int} (hp : p ∈ gens) (x : Int) : ∀ k, Reach gens x (it p k x)
  | 0 => .refl
  | k + 1 => .step p hp (reach_it hp x k)
theorem Reach.symm {n : Nat} {gens : List (List Int)} (hG : Gens n gens) {x y : Int} (hx : 0 ≤ x ∧ x < n) (h : Reach gens x y) : Reach gens y x := by
  induction h with
  | refl => exact .refl
  | @step y p hp h ih =>
    refine Reach.trans ?_ ih
    obtain ⟨h1, h2⟩ := hG p hp
    have hy := h.in hG hx
    have hin : In p y := by unfold In; omega
    obtain ⟨c1, _, _, c4, _⟩ := cyc_spec h2 hin
    have := reach_it (gens := gens) hp (ap p y) (per p y - 1)
    rw [← it_succ, show per p y - 1 + 1 = per p y by omega, c4] at this
    exact this
/-! soundness -/
/-! completeness -/
/-! orbits as sets -/
/-! errors and results -/
/-! edges -/
end Go.PM

namespace Go.Proofs.Ythhfjagnmhhapaa
open Go.W Go.PM
theorem PtAt.drew {w : World} {g n : Nat} {c : Nat → Nat} (h : PtAt w g n c) : PtAt w.drew g n c := h.ext (Ex.refl w).drew
end Go.Proofs.Ythhfjagnmhhapaa

namespace Go.PM
theorem OrbLen.congr {H H' : List Int → Prop} {x : Int} {k : Nat} (h : OrbLen H x k) (he : ∀ p, H p ↔ H' p) : OrbLen H' x k := by
  obtain ⟨o, h1, h2, h3⟩ := h
  refine ⟨o, h1, fun y => ?_, h3⟩
  rw [h2]
  exact ⟨fun ⟨p, a, b⟩ => ⟨p, (he p).1 a, b⟩, fun ⟨p, a, b⟩ => ⟨p, (he p).2 a, b⟩⟩
end Go.PM
namespace Go.Proofs.Ythhfjagnmhhapaa
open Go.W Go.PM
end Go.Proofs.Ythhfjagnmhhapaa

/- Bases and strong generating sets: plain laws. -/
namespace Go.PM
theorem reach_mono {gens gens' : List (List Int)} (h : ∀ g ∈ gens, g ∈ gens') {x y : Int} (hr : Reach gens x y) : Reach gens' x y := by
  induction hr with
  | refl => exact .refl
  | step p hp _ ih => exact .step p (h p hp) ih
/-- c tells the orbits of the group that gens generate -/
def OrbC (n : Nat) (gens : List (List Int)) (c : Nat → Nat) : Prop := ∀ x y : Nat, x < n → y < n → (c x = c y ↔ Reach gens (x : Int) (y : Int))
theorem reach_nil {x y : Int} (h : Reach [] x y) : y = x := by
  induction h with
  | refl => rfl
  | step p hp _ _ => simp at hp
theorem orbC_nil (n : Nat) : OrbC n [] (fun x => x) := fun x y _ _ => ⟨fun e => by have e' : x = y := e; subst e'; exact .refl, fun h => by have := reach_nil h; show x = y; omega⟩
theorem OrbC.join {n : Nat} {gens : List (List Int)} {c c' : Nat → Nat} {p : List Int} (h : OrbC n gens c) (hg : GensN n gens) (hp : PermN n p) (hj : Jn n n p c c') : OrbC n (gens ++ [p]) c' := by
  have hg' : GensN n (gens ++ [p]) := fun q hq => by
    rcases List.mem_append.1 hq with hq | hq
    · exact hg q hq
    · rw [List.mem_singleton] at hq; rw [hq]; exact hp
  have hpn : ∀ x : Nat, x < n → 0 ≤ ap p x ∧ ap p x < n := fun x hx => hp.ap ⟨by omega, by omega⟩
  intro x y hx hy
  constructor
  · refine hj.min (fun x y => Reach (gens ++ [p]) (x : Int) (y : Int)) (fun _ _ => .refl) (fun x y hx _ h => h.symm hg'.gens ⟨by omega, by omega⟩) (fun _ _ _ _ _ _ h1 h2 => h1.trans h2) (fun x y hx hy e => reach_mono (fun g hg => by simp [hg]) ((h x y hx hy).1 e)) (fun x hx => ?_) x y hx hy
    have := hpn x hx
    rw [Int.toNat_of_nonneg this.1]
    exact .step p (by simp) .refl
  · intro hr
    have key : ∀ z : Int, Reach (gens ++ [p]) (x : Int) z → c' x = c' z.toNat := fun z hz => by
      induction hz with
      | refl => rw [Int.toNat_natCast]
      | @step u q hq hu ih =>
        have hur := hu.in hg'.gens ⟨by omega, by omega⟩
        obtain ⟨k, rfl⟩ : ∃ k : Nat, u = (k : Int) := ⟨u.toNat, by omega⟩
        rw [Int.toNat_natCast] at ih
        have hk : k < n := by omega
        rw [ih]
        rcases List.mem_append.1 hq with hq | hq
        · have hqr := (hg q hq).ap (x := (k : Int)) ⟨by omega, by omega⟩
          refine hj.keep _ _ hk (by omega) ((h _ _ hk (by omega)).2 ?_)
          rw [Int.toNat_of_nonneg hqr.1]
          exact .step q hq .refl
        · rw [List.mem_singleton] at hq
          subst hq
          exact (hj.img k hk).symm
    have := key _ hr
    rwa [Int.toNat_natCast] at this
/-- how many points are in the class of x -/
def clsL (n : Nat) (c : Nat → Nat) (x : Nat) : List Nat := (List.range n).filter fun y => decide (c y = c x)
def clsTo (c : Nat → Nat) (x : Nat) : Nat → Nat
  | 0 => 0
  | k + 1 => clsTo c x k + (if c k = c x then 1 else 0)
theorem clsTo_eq (c : Nat → Nat) (x : Nat) : ∀ n, clsTo c x n = (clsL n c x).length
  | 0 => rfl
  | n + 1 => by
    unfold clsL
    rw [List.range_succ, List.filter_append, List.length_append, clsTo, clsTo_eq c x n]
    by_cases h : c n = c x
    · rw [if_pos h, List.filter_cons_of_pos (by simpa using h)]; rfl
    · rw [if_neg h, List.filter_cons_of_neg (by simpa using h)]; rfl
theorem clsTo_le (c : Nat → Nat) (x : Nat) : ∀ n, clsTo c x n ≤ n
  | 0 => Nat.le_refl _
  | n + 1 => by have := clsTo_le c x n; rw [clsTo]; split <;> omega
theorem OrbC.len {n : Nat} {gens : List (List Int)} {c : Nat → Nat} (h : OrbC n gens c) (h1 : 1 ≤ n ∧ n ≤ 512) (hg : GensN n gens) {x : Nat} (hx : x < n) : OrbLen (Gen n gens) (x : Int) (clsTo c x n) := by
  refine ⟨(clsL n c x).map fun (k : Nat) => (k : Int), nodup_map _ (List.Pairwise.filter _ List.nodup_range) (fun a _ b _ e => by have e' : (a : Int) = b := e; omega), fun y => ?_, by rw [List.length_map, clsTo_eq]⟩
  rw [← gen_reach h1 hg ⟨by omega, by omega⟩]
  constructor
  · intro hy
    obtain ⟨k, hk, rfl⟩ := List.mem_map.1 hy
    unfold clsL at hk
    rw [List.mem_filter, List.mem_range, decide_eq_true_eq] at hk
    exact (h x k hx hk.1).1 hk.2.symm
  · intro hy
    have := hy.in hg.gens ⟨by omega, by omega⟩
    obtain ⟨k, rfl⟩ : ∃ k : Nat, y = (k : Int) := ⟨y.toNat, by omega⟩
    refine List.mem_map.2 ⟨k, ?_, rfl⟩
    unfold clsL
    rw [List.mem_filter, List.mem_range, decide_eq_true_eq]
    exact ⟨by omega, ((h x k hx (by omega)).2 hy).symm⟩
/-- the elements that fix the first i points of the base -/
def fixS (S : List (List Int)) (base : List Int) (i : Nat) : List (List Int) := S.filter fun s => (base.take i).all fun x => decide (ap s x = x)
theorem mem_fixS {S : List (List Int)} {base : List Int} {i : Nat} {s : List Int} : s ∈ fixS S base i ↔ s ∈ S ∧ ∀ x ∈ base.take i, ap s x = x := by
  unfold fixS
  rw [List.mem_filter, List.all_eq_true]
  simp only [decide_eq_true_eq]
structure OKP (n : Nat) (G : List Int → Prop) (base : List Int) (S : List (List Int)) : Prop where
  triv : ∀ p, PStab G base p → p = idList n
  sub : ∀ s ∈ S, G s
  orb : ∀ i, i < base.length → ∃ m, OrbLen (Gen n (fixS S base i)) (base.getD i 0) m ∧ OrbLen (PStab G (base.take i)) (base.getD i 0) m
structure OKR (n : Nat) (G : List Int → Prop) (base : List Int) (S : List (List Int)) : Prop where
  triv : ∀ p, PStab G base p → p = idList n
  sub : ∀ s ∈ S, G s
  card : ∀ i, i < base.length → ∃ m, Card (Gen n (fixS S base i)) m ∧ Card (PStab G (base.take i)) m
theorem orbLen_ex {n : Nat} {H : List Int → Prop} (hH : Grp n H) (x : Int) : ∃ m, OrbLen H x m := by
  obtain ⟨k, L, nd, hm, rfl⟩ := hH.card
  obtain ⟨M, hM, hm'⟩ := nodup_of (L.map fun p => ap p x)
  refine ⟨M.length, M, hM, fun y => ?_, rfl⟩
  rw [hm', List.mem_map]
  exact ⟨fun ⟨p, hp, e⟩ => ⟨p, (hm p).1 hp, e⟩, fun ⟨p, hp, e⟩ => ⟨p, (hm p).2 hp, e⟩⟩
theorem ok_iff {n : Nat} {G : List Int → Prop} {base : List Int} {S : List (List Int)} (hG : Grp n G) (hb : ∀ x ∈ base, 0 ≤ x ∧ x < n) (hS : GensN n S) : OKP n G base S ↔ OKR n G base S := by
  have n1 := hG.n1
  have hgN : ∀ i, GensN n (fixS S base i) := fun i s hs => hS s (mem_fixS.1 hs).1
  have hgg := fun i => gen_grp n1 (hgN i)
  have hbt : ∀ i, ∀ x ∈ base.take i, 0 ≤ x ∧ x < n := fun i x hx => hb x (List.mem_of_mem_take hx)
  have hpg := fun i => pstab_grp hG (hbt i)
  have hin : (∀ s ∈ S, G s) → ∀ i p, Gen n (fixS S base i) p → PStab G (base.take i) p := fun hs i p hp =>
    gen_le (hpg i) (fun s hs' => ⟨hs s (mem_fixS.1 hs').1, (mem_fixS.1 hs').2⟩) hp
  constructor
  · rintro ⟨ht, hs, ho⟩
    have key : ∀ d i, i + d = base.length → ∀ p, PStab G (base.take i) p → Gen n (fixS S base i) p := by
      intro d
      induction d with
      | zero =>
        intro i e p hp
        rw [List.take_of_length_le (by omega)] at hp
        rw [ht p hp]; exact .one
      | succ d ih =>
        intro i e p hp
        have hi : i < base.length := by omega
        obtain ⟨m, h1, h2⟩ := ho i hi
        have hbi := hb _ (getD_mem (d := 0) hi)
        obtain ⟨kp, hkp⟩ := (hpg i).card
        obtain ⟨kg, hkg⟩ := (hgg i).card
        obtain ⟨k1, hk1⟩ := (stab_grp (hpg i) hbi).card
        obtain ⟨k2, hk2⟩ := (stab_grp (hgg i) hbi).card
        obtain ⟨o1, a1, a2, rfl⟩ := h1
        obtain ⟨o2, b1, b2, b3⟩ := h2
        have e1 := hkg.unique (orbit_stab (hgg i) hbi a1 a2 hk2)
        have e2 := hkp.unique (orbit_stab (hpg i) hbi b1 b2 hk1)
        have hle : k1 ≤ k2 := hk1.le hk2 fun q hq => by
          have hq' : PStab G (base.take (i + 1)) q := ⟨hq.1.1, fun x hx => by
            rw [take_succ_getD base 0 hi] at hx
            rcases List.mem_append.1 hx with hx | hx
            · exact hq.1.2 x hx
            · rw [List.mem_singleton] at hx; rw [hx]; exact hq.2⟩
          refine ⟨gen_mono (fun s hs' => ?_) (ih (i + 1) (by omega) q hq'), hq.2⟩
          rw [mem_fixS] at hs' ⊢
          exact ⟨hs'.1, fun x hx => hs'.2 x (by rw [take_succ_getD base 0 hi]; simp [hx])⟩
        refine hkg.eq hkp (hin hs i) ?_ p hp
        rw [e1, e2, b3]
        exact Nat.mul_le_mul_left _ hle
    refine ⟨ht, hs, fun i hi => ?_⟩
    obtain ⟨k, hk⟩ := (hgg i).card
    exact ⟨k, hk, hk.congr fun p => ⟨hin hs i p, key (base.length - i) i (by omega) p⟩⟩
  · rintro ⟨ht, hs, hc⟩
    refine ⟨ht, hs, fun i hi => ?_⟩
    obtain ⟨m, h1, h2⟩ := hc i hi
    have he : ∀ p, Gen n (fixS S base i) p ↔ PStab G (base.take i) p := fun p => ⟨hin hs i p, h1.eq h2 (hin hs i) (Nat.le_refl _) p⟩
    obtain ⟨k, hk⟩ := orbLen_ex (hgg i) (base.getD i 0)
    exact ⟨k, hk, hk.congr he⟩
/-- what Verify answers -/
def IsV (n : Nat) (gens : List (List Int)) (base : List Int) (S : List (List Int)) (e : Int) : Prop := (OKR n (Gen n gens) base S ∧ e = 0) ∨ (¬ OKR n (Gen n gens) base S ∧ e = 10)
theorem IsV.unique {n : Nat} {gens : List (List Int)} {base : List Int} {S : List (List Int)} {e e' : Int} (h : IsV n gens base S e) (h' : IsV n gens base S e') : e = e' := by
  rcases h with ⟨h1, rfl⟩ | ⟨h1, rfl⟩ <;> rcases h' with ⟨h2, rfl⟩ | ⟨h2, rfl⟩
  · rfl
  · exact absurd h1 h2
  · exact absurd h2 h1
  · rfl
end Go.PM

namespace Go.Proofs.Ythhfjagnmhhapaa
open Go.W Go.PM
set_option maxHeartbeats 2000000 in
theorem rchainM_spec {n : Nat} {gens : List (List Int)} {base : List Int} {ga b : Option Addr} {sds : List SD} {gc bc : Nat} {w : World} (h1 : 1 ≤ n ∧ n ≤ 512) (h11 : n ≤ 11) (hg : GensN n gens) (hL : Lists w .i64 ga sds gens) (hgl : gens.length ≤ 1000000) (hb : Sl w b (intsL base)) (hbl : base.length ≤ 1000)
    (hbr : ∀ i, i < base.length → 0 ≤ base.getD i 0 ∧ base.getD i 0 < n) :
    CallsR Try.prog 52 #[.int .i64 (n : Int), .slice ga gens.length gc, .slice b base.length bc] w fun v w' => Ex w w' ∧ ∃ (a : Option Addr) (cap : Nat) (L : RC), v = .slice a L.length cap ∧ RCh w' w.heap.size n a cap L ∧ Gd n (Gen n gens) base base.length (lvsOf L) ∧ Full n (lvsOf L) := by
  refine callsR_of (args := [_, _, _]) Try.func52 rfl rfl ?_
  have hlen := hL.len
  repeat' (first | (refine k_pure rfl ?_) | (refine then_normal ?_) | (refine cw_seq ?_) | (refine cw_region rfl ?_) | (refine rr_nil ?_) | (refine k_len rfl ?_) | (refine cw_block ?_))
  refine cw_loop (ι := Nat × RC × Option Addr × Nat) [7, 9, 19, 20, 21, 22, 23, 24, 25, 26, 27, 28, 29] (fun s => [(19, .int .i64 (s.1 : Int)), (7, .slice s.2.2.1 s.2.1.length s.2.2.2)])
    (fun s w' => s.1 ≤ base.length ∧ s.2.1.length = s.1 ∧ Ex w w' ∧ RCh w' w.heap.size n s.2.2.1 s.2.2.2 s.2.1 ∧ Links n (lvsOf s.2.1) ∧ ∀ j, j < s.1 → LvOK n (s.2.1.getD j rc0).2 ∧ (s.2.1.getD j rc0).2.pt = base.getD j 0 ∧ (s.2.1.getD j rc0).2.gens = [] ∧ ∀ a, (s.2.1.getD j rc0).2.done.getD a 0 = 0) (fun s => base.length - s.1)
    (0, [], none, 0) ⟨rfl, rfl, trivial⟩ ⟨Nat.zero_le _, rfl, Ex.refl _, RCh.nil _ _ _, h1, fun j hj => absurd hj (by simp)⟩ ?_
  rintro ⟨i, L, a, cap⟩ ξ w1 ⟨hi, hLl, hE1, hR, hLk, hall⟩
  simp only at hi hLl hR hLk hall
  show CW _ _ _ _ (over [(19, .int .i64 (i : Int)), (7, .slice a L.length cap)] _) w1
  have hb1 := hb.ext hE1
  by_cases hib : i < base.length
  · have hbi := hbr i hib
    repeat' (first | (refine k_lssT rfl rfl (by omega) ?_) | (refine k_indexN rfl rfl (hb1.plain (by simp; omega)) (by omega) ?_) | (refine k_loadI rfl hb1 (by omega) ?_) | (refine k_pure rfl ?_) | (refine then_normal ?_) | (refine cw_seq ?_) | (refine cw_region rfl ?_) | (refine rr_nil ?_) | (refine cw_cond_true rfl ?_) | (refine cw_block ?_) | (refine cw_skip ?_))
    refine k_call (rlevel_spec (w := w1) (gens := []) (ga := none) (gs := []) 0 h1 hbi (fun g hg => absurd hg (by simp)) (Lists.nil _ _ _) (by simp)) rfl ?_
    rintro v w3 ⟨hE3, m, ms, l, rfl, hRL, okl, hpt, hgn, hdn, hm1, hm2⟩
    refine ⟨fun _ _ => trivial, ?_⟩
    have s1 := hE1.size
    have s3 := hE3.size
    have hR3 := hR.ext hE3
    refine k_app1 (s := 3) (v := .agg ((⟨none, [], 0, ba m, ms, n⟩ : RH).cells (base.getD i 0)).toArray) rfl rfl rfl rfl rfl rfl hR3.own (by omega) (by omega) (by omega) (fun g4 a4 c4 w4 ho4 hg4 hA4 => ?_)
    repeat' (first | (refine k_pure rfl ?_) | (refine then_normal ?_) | (refine cw_region rfl ?_) | (refine rr_nil ?_) | (refine k_addI rfl rfl (by omega) (by omega) ?_) | (refine in_normal ?_))
    have hon : ∀ q, (⟨none, [], 0, ba m, ms, n⟩ : RH).on q → w1.heap.size ≤ q ∧ q < w3.heap.size := by
      rintro q (⟨ad, h1, _⟩ | ⟨k, ad, h1, _⟩ | ⟨ad, h1, h2⟩ | ⟨y, ad, h1, h2⟩)
      · cases h1
      · cases h1
      · obtain rfl := Option.some.inj h1; simp only at h2; omega
      · have := hm2 y ad h1; omega
    have hls : lvsOf (L ++ [((⟨none, [], 0, ba m, ms, n⟩ : RH), l)]) = lvsOf L ++ [l] := by simp
    refine ⟨⟨(i + 1, L ++ [((⟨none, [], 0, ba m, ms, n⟩ : RH), l)], a4, c4), ⟨by simp only; omega, by simp only; rw [List.length_append, List.length_singleton, hLl], ?_, hR3.snoc (x := (⟨none, [], 0, ba m, ms, n⟩, l)) hg4 hA4 (by simp only; rw [hpt]; exact ho4) hRL (fun q hq => ?_), ?_, fun j hj => ?_⟩, by simp only; omega, rfl, ?_, trivial⟩, (by (repeat (first | exact agree_mask _ _ _ | refine agree_upd rfl ?_ | refine agree_updO rfl ?_ | refine agree_overIn rfl ?_ | refine agree_maskIn rfl ?_)))⟩
    · exact hR3.own.grow_ex hg4 (hE1.trans hE3) (Nat.le_refl _)
    · have := hon q hq
      refine ⟨this.2, fun ad e => ?_⟩
      have := (hR.own.lo ad e).2
      omega
    · rw [hls]
      refine (links_snoc hLk okl hdn (fun z hz => ⟨fun g hg => by rw [hgn] at hg; simp at hg, ?_⟩)).1
      have hz' : (lvsOf L).getD (L.length - 1) lv0 = z := by rw [List.length_map] at hz; rw [List.getD_eq_getElem?_getD, hz]; rfl
      have hpos : 0 < L.length := by
        rcases Nat.eq_zero_or_pos L.length with h0 | h0
        · rw [List.eq_nil_of_length_eq_zero h0] at hz; simp at hz
        · exact h0
      rw [lvsOf_getD] at hz'
      rw [← hz']
      exact (hall (L.length - 1) (by omega)).2.2.2
    · simp only at hj ⊢
      rw [getD_snoc (by omega)]
      split
      · rename_i h; exact hall j (by omega)
      · obtain rfl : j = i := by omega
        exact ⟨okl, hpt, hgn, hdn⟩
    · show Value.slice a4 (L.length + 1) c4 = .slice a4 (L ++ [_]).length c4
      rw [List.length_append, List.length_singleton]
  obtain rfl : i = base.length := by omega
  have hGd0 : Gd n (Gen n (gens.take 0)) base base.length (lvsOf L) := by
    have hll : (lvsOf L).length = base.length := by rw [List.length_map, hLl]
    refine ⟨hLk, fun p => ?_, fun j hj => ?_, by omega, by omega, fun j hj => by rw [lvsOf_getD]; exact (hall j hj).2.1, fun j h5 h6 => by omega⟩
    · rw [List.take_zero, gen_nil]
      cases L with
      | nil => exact Iff.rfl
      | cons x L =>
        have := (hall 0 (by simp at hLl; omega)).2.2.1
        show Gen n x.2.gens p ↔ _
        have e : x.2.gens = [] := this
        rw [e, gen_nil]
    · rw [lvsOf_getD, (hall j (by omega)).2.2.1]; simp
  repeat' (first | (refine k_lssF rfl rfl (by omega) ?_) | (refine k_pure rfl ?_) | (refine then_normal ?_) | (refine cw_seq ?_) | (refine cw_region rfl ?_) | (refine rr_nil ?_) | (refine k_len rfl ?_) | (refine cw_cond_false rfl ?_) | (refine cw_block ?_) | (refine cw_exit ?_) | (refine then_exit ?_) | (refine in_exit ?_))
  refine cw_loop (ι := Nat × RC × Option Addr × Nat) [7, 11, 12, 13, 32, 33, 34, 35, 36, 37, 38, 39, 40, 41, 42, 43, 44, 45, 46, 47, 48, 49, 50] (fun s => [(32, .int .i64 (s.1 : Int)), (7, .slice s.2.2.1 s.2.1.length s.2.2.2)])
    (fun s w' => s.1 ≤ gens.length ∧ Ex w w' ∧ RCh w' w.heap.size n s.2.2.1 s.2.2.2 s.2.1 ∧ Gd n (Gen n (gens.take s.1)) base base.length (lvsOf s.2.1)) (fun s => gens.length - s.1)
    (0, L, a, cap) ⟨rfl, rfl, trivial⟩ ⟨Nat.zero_le _, hE1, hR, hGd0⟩ ?_
  clear hall hLk hR hE1 hb1 hLl hGd0 hib hi
  rintro ⟨j, L1, a1, cap1⟩ ξ1 w2 ⟨hj, hE2, hR2, hG2⟩
  simp only at hj hR2 hG2
  show CW _ _ _ _ (over [(32, .int .i64 (j : Int)), (7, .slice a1 L1.length cap1)] _) w2
  have hL2 := hL.ext hE2
  have hpl := prod_le hG2.links h11
  have hll2 := hG2.ll
  rw [List.length_map] at hll2
  by_cases hjg : j < gens.length
  · obtain ⟨⟨sa, sl, sc⟩, hsd⟩ : ∃ s, sds.getD j sd0 = s := ⟨_, rfl⟩
    have hgP := hg _ (getD_mem (d := []) hjg)
    obtain ⟨hsl, hsn⟩ := hL.each j hjg
    rw [hsd] at hsl hsn
    simp only at hsl hsn
    obtain rfl : sl = n := by rw [hsn]; exact hgP.2
    have hslt := hsl.lt (by rw [List.length_map, hgP.2]; omega)
    repeat' (first | (refine k_lssT rfl rfl (by omega) ?_) | (refine k_indexN rfl rfl (hL2.sl.plain (by simp; omega)) (by omega) ?_) | (refine k_loadSd rfl hL2.sl (by omega) hsd ?_) | (refine k_pure rfl ?_) | (refine then_normal ?_) | (refine cw_seq ?_) | (refine cw_region rfl ?_) | (refine rr_nil ?_) | (refine cw_cond_true rfl ?_) | (refine cw_block ?_) | (refine cw_skip ?_))
    refine k_call (rsift_spec (first := 0) (cap := cap1) (pc := sc) hR2.own.sl hR2.lv (fun k _ hk => hR2.ok hG2 k hk) (Nat.zero_le _) (by omega) hgP (hsl.ext hE2)) rfl ?_
    rintro v w3 ⟨hE3, ra, rc, rfl, hS3, hfr⟩
    refine ⟨fun _ _ => trivial, ?_⟩
    rw [List.drop_zero] at hS3 ⊢
    obtain ⟨hr1, hr2, ⟨u, hu, hru⟩, hr4, hr5⟩ := sift_spec hG2.links hgP
    have hsift := sift_grp hG2.links hgP
    generalize (siftL (lvsOf L1) (gens.getD j [])).1 = r at *
    generalize (siftL (lvsOf L1) (gens.getD j [])).2 = d at *
    rw [List.length_map] at hr2
    have hrl := hr1.2
    obtain ⟨rg, ro, rfl⟩ := hS3.plain (by simp; omega)
    repeat' (first | (refine k_pure rfl ?_) | (refine then_normal ?_) | (refine cw_seq ?_) | (refine cw_region rfl ?_) | (refine rr_nil ?_))
    refine k_call (refMoved_spec (xs := r) hS3 rc (by omega)) (by rw [hrl]; rfl) ?_
    rintro v w4 ⟨mv, rfl, hmv, hE4⟩
    refine ⟨fun _ _ => trivial, ?_⟩
    have hneg := hmv.neg
    rw [hrl] at hneg
    have hE34 := hE3.trans hE4
    have hR4 := hR2.ext hE34
    have hE24 := hE2.trans hE34
    have s2 := hE2.size
    have s3 := hE3.size
    have s4 := hE4.size
    repeat' (first | (refine k_pure rfl ?_) | (refine then_normal ?_) | (refine cw_region rfl ?_) | (refine rr_nil ?_) | (refine k_addI rfl rfl (by omega) (by omega) ?_) | (refine cw_cond_dec rfl (fun hc => ?_) (fun hc => ?_)) | (refine in_normal ?_) | (refine cw_skip ?_))
    · have hrne : r ≠ idList sl := fun e => by have := hneg.2 e; omega
      have hS4 := hS3.ext hE4
      have hrlt := hS4.lt (by rw [List.length_map, hrl]; omega) _ rfl
      simp only at hrlt
      refine k_call (rextend_spec (first := 0) (d := d) (p := r) (pa := ⟨rg, ro, none⟩) (pc := rc) hR4 hE24.size (fun k hk => hR2.ok hG2 k hk) (by omega) (by omega) (fun k hk => by have := hG2.gl k (by rw [List.length_map]; exact hk); rw [lvsOf_getD] at this; omega) hr1 hrne hS4 (fun ad e => ?_) hrlt) rfl ?_
      · have hlo := hR2.own.lo ad e
        rcases hfr with e' | hf
        · have := hslt _ e'.symm
          simp only at this ⊢
          omega
        · have := hf _ rfl
          simp only at this ⊢
          omega
      rintro v w5 ⟨a5, cap5, L5, rfl, hR5, hF5, hI5, ht5⟩
      refine ⟨fun _ _ => trivial, ?_⟩
      rw [List.drop_zero, List.drop_zero] at hI5
      have hE5 : Ex w w5 := Fr.ex hE24 hF5 (by rintro k ⟨ad, e, rfl⟩; exact (hR2.own.lo ad e).1)
      obtain ⟨g1, g2, g3⟩ := take_gen hjg h1 hg ((hG2.grp u).1 hu) hru
      have hG5 := (hG2.ins0 (gen_grp h1 fun q hq => hg q (List.mem_of_mem_take hq)) g1 g2 g3 hr4 hr5 hI5).1
      repeat' (first | (refine k_pure rfl ?_) | (refine then_normal ?_) | (refine cw_region rfl ?_) | (refine rr_nil ?_) | (refine k_addI rfl rfl (by omega) (by omega) ?_) | (refine in_normal ?_))
      refine ⟨⟨(j + 1, L5, a5, cap5), ⟨by simp only; omega, hE5, hR5, hG5⟩, by simp only; omega, rfl, rfl, trivial⟩, (by (repeat (first | exact agree_mask _ _ _ | refine agree_upd rfl ?_ | refine agree_updO rfl ?_ | refine agree_overIn rfl ?_ | refine agree_maskIn rfl ?_)))⟩
    · have hrid : r = idList sl := hneg.1 (by omega)
      have hin : Gen sl (gens.take j) (gens.getD j []) := by
        rw [← hG2.grp, ← hsift, hrid]; exact hG2.links.grp.one
      refine ⟨⟨(j + 1, L1, a1, cap1), ⟨by simp only; omega, hE24, hR4, hG2.congr (gen_same hjg h1 hg hin)⟩, by simp only; omega, rfl, rfl, trivial⟩, (by (repeat (first | exact agree_mask _ _ _ | refine agree_upd rfl ?_ | refine agree_updO rfl ?_ | refine agree_overIn rfl ?_ | refine agree_maskIn rfl ?_)))⟩
  obtain rfl : j = gens.length := by omega
  rw [List.take_length] at hG2
  repeat' (first | (refine k_lssF rfl rfl (by omega) ?_) | (refine k_pure rfl ?_) | (refine then_normal ?_) | (refine cw_seq ?_) | (refine cw_region rfl ?_) | (refine rr_nil ?_) | (refine k_len rfl ?_) | (refine k_subI rfl rfl (by omega) (by omega) ?_) | (refine cw_cond_false rfl ?_) | (refine cw_block ?_) | (refine cw_exit ?_) | (refine then_exit ?_) | (refine in_exit ?_))
  refine cw_loop (ι := Nat × RC × Option Addr × Nat) [7, 14, 15, 16, 54, 55, 56, 57, 58, 59, 60, 61, 62, 63, 64, 65, 66, 67, 68, 69, 70, 71, 72] (fun s => [(14, .int .i64 ((s.1 : Int) - 1)), (7, .slice s.2.2.1 s.2.1.length s.2.2.2)])
    (fun s w' => s.1 ≤ s.2.1.length ∧ Ex w w' ∧ RCh w' w.heap.size n s.2.2.1 s.2.2.2 s.2.1 ∧ Gd n (Gen n gens) base base.length (lvsOf s.2.1) ∧ Full n ((lvsOf s.2.1).drop s.1)) (fun s => (39916801 - prodL (lvsOf s.2.1)) * 40000000 + s.1)
    (L1.length, L1, a1, cap1) ⟨rfl, rfl, trivial⟩ ⟨Nat.le_refl _, hE2, hR2, hG2, by rw [List.drop_eq_nil_of_le (by rw [List.length_map]; exact Nat.le_refl _)]; trivial⟩ ?_
  clear hR2 hE2 hL2 hG2 hpl hll2 hj hjg
  rintro ⟨i, L, a, cap⟩ ξ2 w3 ⟨hi, hE3, hR3, hG3, hF3⟩
  simp only at hi hR3 hG3 hF3
  show CW _ _ _ _ (over [(14, .int .i64 ((i : Int) - 1)), (7, .slice a L.length cap)] _) w3
  by_cases hi0 : i = 0
  · subst hi0
    repeat' (first | (refine k_geqF rfl rfl (by omega) ?_) | (refine k_pure rfl ?_) | (refine then_normal ?_) | (refine cw_seq ?_) | (refine cw_region rfl ?_) | (refine rr_nil ?_) | (refine cw_cond_false rfl ?_) | (refine cw_exit ?_) | (refine then_exit ?_) | (refine in_exit ?_) | (refine cw_ret ?_))
    exact ret1 rfl (rt rfl) ⟨hE3, a, cap, L, rfl, hR3, hG3, hF3⟩
  · have hpl3 := prod_le hG3.links h11
    have hll3 := hG3.ll
    rw [List.length_map] at hll3
    repeat' (first | (refine k_geqT rfl rfl (by omega) ?_) | (refine k_pure rfl ?_) | (refine then_normal ?_) | (refine cw_seq ?_) | (refine cw_region rfl ?_) | (refine rr_nil ?_) | (refine cw_cond_true rfl ?_) | (refine cw_block ?_) | (refine cw_skip ?_))
    refine cw_loop (ι := Nat × RC × Option Addr × Nat) [7, 14, 15, 16, 58, 59, 60, 61, 62, 63, 64, 65, 66, 67, 68, 69, 70, 71, 72] (fun s => [(14, .int .i64 (s.1 : Int)), (7, .slice s.2.2.1 s.2.1.length s.2.2.2)])
      (fun s w' => s.1 < s.2.1.length ∧ Ex w w' ∧ RCh w' w.heap.size n s.2.2.1 s.2.2.2 s.2.1 ∧ Gd n (Gen n gens) base base.length (lvsOf s.2.1) ∧ Full n ((lvsOf s.2.1).drop (s.1 + 1)) ∧ (prodL (lvsOf L) < prodL (lvsOf s.2.1) ∨ (s.1 < i ∧ lvsOf s.2.1 = lvsOf L))) (fun s => 39916801 - prodL (lvsOf s.2.1))
      (i - 1, L, a, cap) ⟨by show Value.int .i64 ((i : Int) - 1) = .int .i64 ((i - 1 : Nat) : Int); congr 1; omega, rfl, trivial⟩ ⟨by simp only; omega, hE3, hR3, hG3, by simp only; rw [show i - 1 + 1 = i by omega]; exact hF3, .inr ⟨by simp only; omega, rfl⟩⟩ ?_
    rintro ⟨k, L4, a4, cap4⟩ ξ3 w4 ⟨hk, hE4, hR4, hG4, hF4, hor⟩
    simp only at hk hR4 hG4 hF4 hor
    show CW _ _ _ _ (over [(14, .int .i64 (k : Int)), (7, .slice a4 L4.length cap4)] _) w4
    have hpl4 := prod_le hG4.links h11
    have hll4 := hG4.ll
    rw [List.length_map] at hll4
    have hkl : k < (lvsOf L4).length := by rw [List.length_map]; exact hk
    have ok := hR4.ok hG4 k hk
    have hglk := hG4.gl k hkl
    rw [lvsOf_getD] at hglk
    have hdr := drop_cons hkl
    have hLd := hG4.links.drop k
    rw [hdr, lvsOf_getD] at hLd
    have hgetk := lvsOf_getD L4 k
    repeat' (first | (refine k_pure rfl ?_) | (refine cw_seq ?_) | (refine cw_region rfl ?_) | (refine cw_block ?_))
    refine k_call (rschr_spec (i := k) (cap := cap4) hR4.own.sl hR4.lv (fun j hj => hR4.ok hG4 j hj) hk (by omega) (by omega)) rfl ?_
    rintro v w5 ⟨hE5, ⟨bb, kk, ra, rc, hbb, hkk, rfl, hS5, hne5, hra1, hra2⟩ | ⟨rfl, hall⟩⟩
    · refine ⟨fun _ _ => trivial, ?_⟩
      have hsin : Gen n (L4.getD k rc0).2.gens ((L4.getD k rc0).2.schr bb kk) ∧ ap ((L4.getD k rc0).2.schr bb kk) (L4.getD k rc0).2.pt = (L4.getD k rc0).2.pt := by
        have hgr := ok.grp
        have hb1 := ok.bin bb hbb
        have hg1 := gen_self ok.gens (getD_mem (d := []) hkk)
        have hom : (L4.getD k rc0).2.orb.getD bb 0 ∈ (L4.getD k rc0).2.orb := getD_mem hbb
        have hy : ap ((L4.getD k rc0).2.gens.getD kk []) ((L4.getD k rc0).2.orb.getD bb 0) ∈ (L4.getD k rc0).2.orb := by
          rw [ok.mem]; exact .step _ (getD_mem hkk) ((ok.mem _).1 hom)
        have hto := ok.to_in hy
        have hm1 := hgr.mul _ _ (hgr.inv hb1) hg1
        refine ⟨hgr.mul _ _ hm1 hto, ?_⟩
        have pb := hgr.perm _ hb1
        have e1 : ap (inv ((L4.getD k rc0).2.bk bb)) (L4.getD k rc0).2.pt = (L4.getD k rc0).2.orb.getD bb 0 := by
          rw [← ok.bap bb hbb, ap_inv pb (ok.orb_in hom)]
        unfold Lv.schr
        rw [ap_mul (hgr.perm _ hm1) ok.pt, ap_mul pb.inv ok.pt, e1, ok.to_ap hy]
      have psch := ok.grp.perm _ hsin.1
      obtain ⟨hr1, hr2, ⟨u, hu, hru⟩, hr4, hr5⟩ := sift_spec (hG4.links.drop (k + 1)) psch
      have hul := hLd.2.1 u hu
      generalize (L4.getD k rc0).2.schr bb kk = q at *
      generalize hrr : (siftL ((lvsOf L4).drop (k + 1)) q).1 = r at *
      generalize hdd : (siftL ((lvsOf L4).drop (k + 1)) q).2 = d at *
      rw [List.length_drop, List.length_map] at hr2
      have hrg : Gen n ((lvsOf L4).getD k lv0).gens r ∧ ap r ((lvsOf L4).getD k lv0).pt = ((lvsOf L4).getD k lv0).pt := by
        rw [hgetk, hru]
        exact ⟨ok.grp.mul _ _ hsin.1 hul.1, by rw [ap_mul psch ok.pt, hsin.2, hul.2]⟩
      have hR5 := hR4.ext hE5
      have s4 := hE4.size
      have s5 := hE5.size
      repeat' (first | (refine k_eqNil rfl rfl ?_) | (refine k_pure rfl ?_) | (refine then_normal ?_) | (refine cw_seq ?_) | (refine cw_region rfl ?_) | (refine rr_nil ?_) | (refine cw_cond_false rfl ?_) | (refine cw_skip ?_))
      refine k_call (rextend_spec (first := k + 1) (d := d) (p := r) (pa := ra) (pc := rc) hR5 (by omega) (fun j hj => hR4.ok hG4 j hj) (by omega) (by omega) (fun j hj => by have := hG4.gl j (by rw [List.length_map]; exact hj); rw [lvsOf_getD] at this; omega) hr1 hne5 hS5 (fun ad e => by have := (hR4.own.lo ad e).2; omega) hra2) (by rw [show (((k + 1 : Nat) : Int) - 1) = (k : Int) by omega]; rfl) ?_
      rintro v w6 ⟨a6, cap6, L6, rfl, hR6, hF6, hI6, ht6⟩
      refine ⟨fun _ _ => trivial, ?_⟩
      have hE6 : Ex w w6 := Fr.ex (hE4.trans hE5) hF6 (by rintro k ⟨ad, e, rfl⟩; exact (hR4.own.lo ad e).1)
      obtain ⟨hG6, hp6⟩ := hG4.insR hkl hr1 hrg.1 hrg.2 hr4 hr5 hI6 ht6
      have hl6 := insR_len hI6
      have hd6 := insR_drop hI6
      rw [List.drop_drop, List.drop_drop] at hd6
      have hpl6 := prod_le hG6.links h11
      rw [List.length_drop, List.length_map] at hl6
      repeat' (first | (refine k_pure rfl ?_) | (refine then_normal ?_) | (refine cw_region rfl ?_) | (refine rr_nil ?_) | (refine in_normal ?_))
      refine ⟨⟨(k + 1 + d, L6, a6, cap6), ⟨by simp only; omega, hE6, hR6, hG6, ?_, .inl ?_⟩, by simp only; omega, rfl, rfl, trivial⟩, (by (repeat (first | exact agree_mask _ _ _ | refine agree_upd rfl ?_ | refine agree_updO rfl ?_ | refine agree_overIn rfl ?_ | refine agree_maskIn rfl ?_)))⟩
      · simp only
        rw [show k + 1 + d + 1 = k + 1 + (d + 1) by omega, hd6]
        have := hF4.drop (d + 1)
        rwa [List.drop_drop] at this
      · simp only
        rcases hor with h | ⟨_, h⟩
        · omega
        · rw [← h]; exact hp6
    · refine ⟨fun _ _ => trivial, ?_⟩
      repeat' (first | (refine k_eqNil rfl rfl ?_) | (refine k_pure rfl ?_) | (refine then_normal ?_) | (refine cw_seq ?_) | (refine cw_region rfl ?_) | (refine rr_nil ?_) | (refine k_subI rfl rfl (by omega) (by omega) ?_) | (refine cw_cond_true rfl ?_) | (refine cw_exit ?_) | (refine then_exit ?_) | (refine in_exit ?_) | (refine in_exit_ne rfl ?_) | (refine in_normal ?_))
      have hFk : Full n ((lvsOf L4).drop k) := by
        rw [hdr, hgetk]
        refine ⟨schreier hLd fun b' hb' k' hk' => ?_, hF4⟩
        have hom : (L4.getD k rc0).2.orb.getD b' 0 ∈ (L4.getD k rc0).2.orb := getD_mem hb'
        have hgr := ok.grp
        have hy : ap ((L4.getD k rc0).2.gens.getD k' []) ((L4.getD k rc0).2.orb.getD b' 0) ∈ (L4.getD k rc0).2.orb := by
          rw [ok.mem]; exact .step _ (getD_mem hk') ((ok.mem _).1 hom)
        have psch : PermN n ((L4.getD k rc0).2.schr b' k') := hgr.perm _ (hgr.mul _ _ (hgr.mul _ _ (hgr.inv (ok.bin b' hb')) (gen_self ok.gens (getD_mem (d := []) hk'))) (ok.to_in hy))
        rw [← sift_grp hLd.tail psch, hall b' hb' k' hk']
        exact hLd.tail.grp.one
      refine ⟨⟨(k, L4, a4, cap4), ⟨by simp only; omega, hE4.trans hE5, hR4.ext hE5, hG4, hFk⟩, ?_, rfl, rfl, trivial⟩, (by (repeat (first | exact agree_mask _ _ _ | refine agree_upd rfl ?_ | refine agree_updO rfl ?_ | refine agree_overIn rfl ?_ | refine agree_maskIn rfl ?_)))⟩
      simp only
      rcases hor with h | ⟨h, h'⟩
      · have e : 39916801 - prodL (lvsOf L) = (39916801 - prodL (lvsOf L) - 1) + 1 := by omega
        have h5 : 39916801 - prodL (lvsOf L4) ≤ 39916801 - prodL (lvsOf L) - 1 := by omega
        have h6 := Nat.mul_le_mul_right 40000000 h5
        rw [e, Nat.add_mul]
        omega
      · rw [h']; omega
end Go.Proofs.Ythhfjagnmhhapaa

namespace Go.PM
def cmpI (x y : Int) : Int := if x < y then -1 else if y < x then 1 else 0
theorem cmpI_zero {x y : Int} : cmpI x y = 0 ↔ x = y := by
  unfold cmpI
  split
  · constructor <;> intro <;> omega
  · split
    · constructor <;> intro <;> omega
    · constructor <;> intro <;> omega
end Go.PM
namespace Go.Proofs.Ythhfjagnmhhapaa
open Go.W Go.PM Go.LM
theorem sgn_sign (neg : Bool) (l : List Nat) (h : neg = true → natOf l ≠ 0) : (sgn neg (natOf l)).sign = if natOf l = 0 then 0 else if neg then -1 else 1 := by
  unfold sgn
  by_cases h0 : natOf l = 0
  · rw [if_pos h0, h0]; cases neg <;> rfl
  · rw [if_neg h0]
    cases neg
    · rw [if_neg (by decide), if_neg (by decide)]; exact Int.sign_eq_one_of_pos (by omega)
    · rw [if_pos rfl, if_pos rfl]; exact Int.sign_eq_neg_one_of_neg (by omega)
theorem refCmpI_spec {lo lo' : Nat} {v1 v2 : Value} {x y : Int} {w : World} (h1 : IntC lo w v1 x) (h2 : IntC lo' w v2 y) : CallsR Try.prog 69 #[v1, v2] w fun v w' => v = .int .i64 (cmpI x y) ∧ Ex w w' := by
  have h1' := h1
  have h2' := h2
  obtain ⟨n1, a1, c1, l1, rfl, hL1, rfl, hc1, g1, _⟩ := h1
  obtain ⟨n2, a2, c2, l2, rfl, hL2, rfl, hc2, g2, _⟩ := h2
  have hz : ∀ {l : List Nat}, Canon l → natOf l = 0 → l = [] := fun {l} c h => by have := trimL_zero.2 h; rwa [c] at this
  have t1 : trimL l1 = l1 := hc1
  have t2 : trimL l2 = l2 := hc2
  have e1 := sgn_sign n1 l1 (fun h h' => g1 h (hz hc1 h'))
  have e2 := sgn_sign n2 l2 (fun h h' => g2 h (hz hc2 h'))
  refine callsR_of (args := [_, _]) Try.func69 rfl rfl ?_
  refine cw_seq ?_
  refine cw_region rfl ?_
  refine k_boxA rfl (fun ga w2 hn2 => ⟨fun _ _ => trivial, ?_⟩)
  refine k_boxA rfl (fun gb w3 hn3 => ⟨fun _ _ => trivial, ?_⟩)
  have hb2 := hn2.blk.ext hn3.ex
  have hb3 := hn3.blk
  have hE := hn2.ex.trans hn3.ex
  repeat' (first | (refine k_pure rfl ?_) | (refine then_normal ?_) | (refine cw_seq ?_) | (refine rr_nil ?_))
  refine cw_draw (late := []) (plan := [(0, none), (2, none), (1, some true), (3, some true), (4, none), (5, none)]) (fun w' => Ex w3 w') mixed (by kernel_rfl) (Ex.refl _).drew ?_
  have hE3d : Ex w3 w3.drew := (Ex.refl _).drew
  repeat' (first | (refine k_loadCA (g := ga) rfl (fun _ h => hb2.ext h) rfl ?_) | (refine k_loadCA (g := gb) rfl (fun _ h => hb3.ext h) rfl ?_))
  refine k_call (refSign_spec (h1'.ext (hE.trans hE3d))) rfl ?_
  rintro v w4 ⟨rfl, hE4⟩
  refine ⟨fun _ h => h.trans hE4, ?_⟩
  skip
  refine k_call (refSign_spec (h2'.ext ((hE.trans hE3d).trans hE4))) rfl ?_
  rintro v w5 ⟨rfl, hE5⟩
  refine ⟨fun _ h => h.trans hE5, ?_⟩
  have hE35 : Ex w3 w5 := (hE3d.trans hE4).trans hE5
  have hE05 := hE.trans hE35
  generalize hs1 : (sgn n1 (natOf l1)).sign = s1 at *
  generalize hs2 : (sgn n2 (natOf l2)).sign = s2 at *
  have q1 : sgn n1 (natOf l1) = s1 * (natOf l1 : Int) := by rw [← hs1]; have := Int.sign_mul_natAbs (sgn n1 (natOf l1)); rw [sgn_natAbs] at this; exact this.symm
  have q2 : sgn n2 (natOf l2) = s2 * (natOf l2 : Int) := by rw [← hs2]; have := Int.sign_mul_natAbs (sgn n2 (natOf l2)); rw [sgn_natAbs] at this; exact this.symm
  have r1 : s1 = 0 ∨ s1 = 1 ∨ s1 = -1 := by rw [e1]; split; exact .inl rfl; split; exact .inr (.inr rfl); exact .inr (.inl rfl)
  have r2 : s2 = 0 ∨ s2 = 1 ∨ s2 = -1 := by rw [e2]; split; exact .inl rfl; split; exact .inr (.inr rfl); exact .inr (.inl rfl)
  have p1 : s1 = 0 ↔ natOf l1 = 0 := by
    rw [e1]
    by_cases h : natOf l1 = 0
    · rw [if_pos h]; exact ⟨fun _ => h, fun _ => rfl⟩
    · rw [if_neg h]; cases n1 <;> simp [h]
  have p2 : s2 = 0 ↔ natOf l2 = 0 := by
    rw [e2]
    by_cases h : natOf l2 = 0
    · rw [if_pos h]; exact ⟨fun _ => h, fun _ => rfl⟩
    · rw [if_neg h]; cases n2 <;> simp [h]
  rw [q1, q2]
  by_cases hss : s1 = s2
  · subst hss
    have hcz : -1 ≤ cmpZ (natOf l1) (natOf l2) ∧ cmpZ (natOf l1) (natOf l2) ≤ 1 := by unfold cmpZ; split; omega; split <;> omega
    repeat' (first | (refine k_neqI rfl rfl ?_) | (refine k_pure rfl ?_) | (refine then_normal ?_) | (refine cw_seq ?_) | (refine cw_region rfl ?_) | (refine rr_nil ?_) | (refine cw_cond_false rfl ?_) | (refine cw_skip ?_))
    refine cw_draw (late := []) (plan := [(0, none), (1, none), (2, none), (4, none), (5, none), (3, some true), (6, some true), (7, some true), (8, none), (9, none)]) (fun w' => Ex w5 w') mixed (by kernel_rfl) (Ex.refl _).drew ?_
    have hE5d : Ex w5 w5.drew := (Ex.refl _).drew
    have hb25 := hb2.ext hE35
    have hb35 := hb3.ext hE35
    repeat' (first | (refine k_loadC (g := ga) rfl (fun _ h => hb25.ext h) rfl ?_) | (refine k_loadC (g := gb) rfl (fun _ h => hb35.ext h) rfl ?_) | (refine k_pure rfl ?_) | (refine k_fieldAddr rfl ?_))
    refine k_call (refTrim_spec (hL1.ext (hE05.trans hE5d))) rfl ?_
    rw [t1]
    rintro v w6 ⟨a6, c6, rfl, hL6, _, hE6⟩
    refine ⟨fun _ h => h.trans hE6, ?_⟩
    skip
    refine k_call (refTrim_spec (hL2.ext ((hE05.trans hE5d).trans hE6))) rfl ?_
    rw [t2]
    rintro v w7 ⟨a7, c7, rfl, hL7, _, hE7⟩
    refine ⟨fun _ h => h.trans hE7, ?_⟩
    skip
    refine k_call (refCmp_spec (hL6.ext hE7) hL7 hc1 hc2) rfl ?_
    rintro v w8 ⟨rfl, hE8⟩
    refine ⟨fun _ h => h.trans hE8, ?_⟩
    have hmb : -1 ≤ s1 * cmpZ (natOf l1) (natOf l2) ∧ s1 * cmpZ (natOf l1) (natOf l2) ≤ 1 := by rcases r1 with rfl | rfl | rfl <;> omega
    repeat' (first | (refine k_mulI rfl rfl (by omega) (by omega) ?_) | (refine k_pure rfl ?_) | (refine then_normal ?_) | (refine rr_nil ?_) | (refine cw_ret ?_))
    refine ret1 rfl (rt rfl) ⟨?_, (((hE05.trans hE5d).trans hE6).trans hE7).trans hE8⟩
    show Value.int .i64 (s1 * cmpZ (natOf l1) (natOf l2)) = _
    congr 1
    unfold cmpZ cmpI
    rcases r1 with rfl | rfl | rfl
    · rw [Int.zero_mul, Int.zero_mul, Int.zero_mul, if_neg (by omega), if_neg (by omega)]
    · split
      · rw [if_pos (by omega)]; rfl
      · split
        · rw [if_neg (by omega), if_pos (by omega)]; rfl
        · rw [if_neg (by omega), if_neg (by omega)]; rfl
    · split
      · rw [if_neg (by omega), if_pos (by omega)]; rfl
      · split
        · rw [if_pos (by omega)]; rfl
        · rw [if_neg (by omega), if_neg (by omega)]; rfl
  · by_cases hlt : s1 < s2
    · repeat' (first | (refine k_lssT rfl rfl hlt ?_) | (refine k_pure rfl ?_) | (refine then_normal ?_) | (refine cw_seq ?_) | (refine cw_region rfl ?_) | (refine rr_nil ?_) | (refine cw_cond_true rfl ?_) | (refine cw_cond_dec rfl (fun hc => ?_) (fun hc => ?_)) | (refine cw_ret ?_) | (refine then_ret ?_) | (refine cw_skip ?_))
      · refine ret1 rfl (rt rfl) ⟨?_, hE05⟩
        show Value.int .i64 (-1) = _
        congr 1
        unfold cmpI
        rw [if_pos]
        rcases r1 with rfl | rfl | rfl <;> rcases r2 with rfl | rfl | rfl <;> omega
      · omega
    · repeat' (first | (refine k_lssF rfl rfl (by omega) ?_) | (refine k_pure rfl ?_) | (refine then_normal ?_) | (refine cw_seq ?_) | (refine cw_region rfl ?_) | (refine rr_nil ?_) | (refine cw_cond_false rfl ?_) | (refine cw_cond_dec rfl (fun hc => ?_) (fun hc => ?_)) | (refine cw_ret ?_) | (refine then_ret ?_) | (refine cw_skip ?_))
      · refine ret1 rfl (rt rfl) ⟨?_, hE05⟩
        show Value.int .i64 1 = _
        congr 1
        unfold cmpI
        rw [if_neg, if_pos]
        · rcases r1 with rfl | rfl | rfl <;> rcases r2 with rfl | rfl | rfl <;> omega
        · rcases r1 with rfl | rfl | rfl <;> rcases r2 with rfl | rfl | rfl <;> omega
      · omega
/-- some of the lists of a list -/
def SubL (sds : List SD) (S : List (List Int)) (sds' : List SD) (xs : List (List Int)) : Prop := sds'.length = xs.length ∧ ∀ i, i < xs.length → ∃ j, j < S.length ∧ sds'.getD i sd0 = sds.getD j sd0 ∧ xs.getD i [] = S.getD j []
theorem SubL.snoc {sds sds' : List SD} {S xs : List (List Int)} (h : SubL sds S sds' xs) {j : Nat} (hj : j < S.length) : SubL sds S (sds' ++ [sds.getD j sd0]) (xs ++ [S.getD j []]) := by
  obtain ⟨h1, h2⟩ := h
  refine ⟨by simp [h1], fun i hi => ?_⟩
  rw [List.length_append, List.length_singleton] at hi
  rw [getD_snoc (by omega), getD_snoc hi, h1]
  split
  · rename_i h; exact h2 i h
  · exact ⟨j, hj, rfl, rfl⟩
theorem SubL.lists {w : World} {k : IntKind} {a a' : Option Addr} {sds sds' : List SD} {S xs : List (List Int)} (h : SubL sds S sds' xs) (hL : Lists w k a sds S) (ht : Sl w a' (sds'.map SD.val)) : Lists w k a' sds' xs :=
  ⟨ht, h.1, fun i hi => by obtain ⟨j, hj, e1, e2⟩ := h.2 i hi; rw [e1, e2]; exact hL.each j hj⟩
theorem rfixing_spec {n k : Nat} {S : List (List Int)} {base : List Int} {sa b : Option Addr} {sds : List SD} {sc bc : Nat} {w : World} (hS : Lists w .i64 sa sds S) (hSl : S.length ≤ 1000000) (hP : GensN n S) (hb : Sl w b (intsL base)) (hbr : ∀ x ∈ base, 0 ≤ x ∧ x < n) (hbl : base.length ≤ 1000) (hk : k ≤ base.length) (hbc : base.length ≤ bc) :
    CallsR Try.prog 70 #[.slice sa S.length sc, .slice b base.length bc, .int .i64 (k : Int)] w fun v w' => Ex w w' ∧ ∃ (a' : Option Addr) (c' : Nat) (sds' : List SD), v = .slice a' (fixS S base k).length c' ∧ Lists w' .i64 a' sds' (fixS S base k) := by
  refine callsR_of (args := [_, _, _]) Try.func70 rfl rfl ?_
  have hlen := hS.len
  repeat' (first | (refine k_pure rfl ?_) | (refine then_normal ?_) | (refine cw_seq ?_) | (refine cw_region rfl ?_) | (refine rr_nil ?_) | (refine k_len rfl ?_) | (refine cw_block ?_))
  refine cw_loop (ι := Nat × List SD × Option Addr × Nat) [7, 9, 10, 12, 15, 16, 17, 18, 19, 20, 21, 22, 23, 24, 25, 26, 27, 28, 29, 30, 31, 32, 33, 34, 35, 36, 37, 38, 39, 40, 41, 42] (fun s => [(15, .int .i64 (s.1 : Int)), (7, .slice s.2.2.1 s.2.1.length s.2.2.2)])
    (fun s w' => s.1 ≤ S.length ∧ Ex w w' ∧ Own w' w.heap.size 28 1 s.2.2.1 s.2.1.length s.2.2.2 (s.2.1.map SD.val) ∧ SubL sds S s.2.1 (fixS (S.take s.1) base k)) (fun s => S.length - s.1)
    (0, [], none, 0) ⟨rfl, rfl, trivial⟩ ⟨Nat.zero_le _, Ex.refl _, Own.nil _ _ _ _, rfl, fun i hi => absurd hi (by simp [fixS])⟩ ?_
  rintro ⟨j, ds, oa, oc⟩ ξ w1 ⟨hj, hE1, hO1, hsub⟩
  simp only at hj hO1 hsub
  show CW _ _ _ _ (over [(15, .int .i64 (j : Int)), (7, .slice oa ds.length oc)] _) w1
  have hS1 := hS.ext hE1
  by_cases hjl : j < S.length
  · have hPj := hP _ (getD_mem (d := []) hjl)
    obtain ⟨hsl, hsn⟩ := hS1.each j hjl
    obtain ⟨⟨pa, pl, pc⟩, hsd⟩ : ∃ s, sds.getD j sd0 = s := ⟨_, rfl⟩
    rw [hsd] at hsl hsn
    simp only at hsl hsn
    have hpl := hPj.2
    obtain rfl : pl = n := by omega
    have htk : fixS (S.take (j + 1)) base k = fixS (S.take j) base k ++ (if (base.take k).all (fun x => decide (ap (S.getD j []) x = x)) then [S.getD j []] else []) := by
      unfold fixS
      rw [take_succ_getD S [] hjl, List.filter_append]
      congr 1
      by_cases h : (base.take k).all (fun x => decide (ap (S.getD j []) x = x)) = true
      · rw [if_pos h]; simp only [List.filter_cons, List.filter_nil]; rw [if_pos h]
      · rw [if_neg h]; simp only [List.filter_cons, List.filter_nil]; rw [if_neg h]
    have hds := hsub.1
    have hfl : (fixS (S.take j) base k).length ≤ j := by
      unfold fixS
      refine Nat.le_trans (List.length_filter_le _ _) ?_
      rw [List.length_take]; omega
    repeat' (first | (refine k_lssT rfl rfl (by omega) ?_) | (refine k_indexN (j := j) rfl rfl (hS1.sl.plain (by simp; omega)) (by omega) ?_) | (refine k_loadSd rfl hS1.sl (by omega) hsd ?_) | (refine k_sliceTo rfl rfl (by omega) (by omega) ?_) | (refine k_pure rfl ?_) | (refine then_normal ?_) | (refine cw_seq ?_) | (refine cw_region rfl ?_) | (refine rr_nil ?_) | (refine k_len rfl ?_) | (refine cw_cond_true rfl ?_) | (refine cw_block ?_) | (refine cw_skip ?_))
    rw [Int.toNat_natCast]
    refine cw_loop (ι := Nat) [10, 12, 23, 24, 25, 26, 27, 28, 29, 30, 31, 32, 33, 34, 35, 36] (fun s => [(23, .int .i64 (s : Int)), (10, .bool ((base.take s).all fun x => decide (ap (S.getD j []) x = x)))])
      (fun s w' => s ≤ k ∧ w' = w1) (fun s => k - s) 0 ⟨rfl, rfl, trivial⟩ ⟨Nat.zero_le _, rfl⟩ ?_
    rintro i ξ2 w2 ⟨hi, rfl⟩
    show CW _ _ _ _ (over [(23, .int .i64 (i : Int)), (10, .bool ((base.take i).all fun x => decide (ap (S.getD j []) x = x)))] _) w2
    have hb1 := hb.ext hE1
    by_cases hik : i < k
    · have hbi := hbr _ (getD_mem (d := 0) (show i < base.length by omega))
      obtain ⟨x, hx⟩ : ∃ x : Nat, base.getD i 0 = (x : Int) := ⟨(base.getD i 0).toNat, by omega⟩
      have hxn : x < pl := by omega
      have hap : ap (S.getD j []) (base.getD i 0) = (S.getD j []).getD x 0 := by unfold ap; rw [hx, Int.toNat_natCast]
      have hall : (base.take (i + 1)).all (fun x => decide (ap (S.getD j []) x = x)) = ((base.take i).all (fun x => decide (ap (S.getD j []) x = x)) && decide ((S.getD j []).getD x 0 = base.getD i 0)) := by
        rw [take_succ_getD base 0 (by omega), List.all_append, ← hap]; simp
      cases hbb : (base.take i).all (fun x => decide (ap (S.getD j []) x = x)) with
      | true =>
        rw [hbb, Bool.true_and] at hall
        repeat' (first | (refine k_lssT rfl rfl (by omega) ?_) | (refine k_indexN (j := i) rfl rfl (hb1.plain (by simp; omega)) (by omega) ?_) | (refine k_loadI rfl hb1 (by omega) ?_) | (refine k_indexN (j := x) (a := pa) (l := pl) (c := pc) rfl (congrArg _ hx) (hsl.plain (by rw [List.length_map]; omega)) (by omega) ?_) | (refine k_loadI (a := pa) rfl hsl (by omega) ?_) | (refine k_pure rfl ?_) | (refine then_normal ?_) | (refine cw_seq ?_) | (refine cw_region rfl ?_) | (refine rr_nil ?_) | (refine g_run rfl rfl ?_) | (refine k_addI rfl rfl (by omega) (by omega) ?_) | (refine cw_cond_true rfl ?_) | (refine cw_block ?_) | (refine in_normal ?_) | (refine cw_skip ?_))
        refine ⟨⟨i + 1, ⟨by omega, rfl⟩, by omega, rfl, ?_, trivial⟩, (by (repeat (first | exact agree_mask _ _ _ | refine agree_upd rfl ?_ | refine agree_updO rfl ?_ | refine agree_overIn rfl ?_ | refine agree_maskIn rfl ?_)))⟩
        rw [hall]; rfl
      | false =>
        rw [hbb, Bool.false_and] at hall
        repeat' (first | (refine k_lssT rfl rfl (by omega) ?_) | (refine k_indexN (j := i) rfl rfl (hb1.plain (by simp; omega)) (by omega) ?_) | (refine k_loadI rfl hb1 (by omega) ?_) | (refine k_pure rfl ?_) | (refine then_normal ?_) | (refine cw_seq ?_) | (refine cw_region rfl ?_) | (refine rr_nil ?_) | (refine g_skip rfl rfl ?_) | (refine k_addI rfl rfl (by omega) (by omega) ?_) | (refine cw_cond_true rfl ?_) | (refine cw_block ?_) | (refine in_normal ?_) | (refine cw_skip ?_))
        refine ⟨⟨i + 1, ⟨by omega, rfl⟩, by omega, rfl, ?_, trivial⟩, (by (repeat (first | exact agree_mask _ _ _ | refine agree_upd rfl ?_ | refine agree_updO rfl ?_ | refine agree_overIn rfl ?_ | refine agree_maskIn rfl ?_)))⟩
        rw [hall]; rfl
    · obtain rfl : i = k := by omega
      cases hbb : (base.take i).all (fun x => decide (ap (S.getD j []) x = x)) with
      | true =>
        rw [hbb, if_pos rfl] at htk
        repeat' (first | (refine k_lssF rfl rfl (by omega) ?_) | (refine k_pure rfl ?_) | (refine then_normal ?_) | (refine cw_seq ?_) | (refine cw_region rfl ?_) | (refine rr_nil ?_) | (refine cw_cond_true rfl ?_) | (refine cw_cond_false rfl ?_) | (refine cw_exit ?_) | (refine then_exit ?_) | (refine in_exit ?_))
        refine k_app1S rfl rfl rfl rfl hO1 (by omega) (by omega) hE1.size (fun g2 a2 c2 w3 ho3 hg3 _ => ?_)
        repeat' (first | (refine k_pure rfl ?_) | (refine then_normal ?_) | (refine cw_region rfl ?_) | (refine rr_nil ?_) | (refine k_addI rfl rfl (by omega) (by omega) ?_) | (refine in_normal ?_))
        refine ⟨⟨(j + 1, ds ++ [⟨pa, pl, pc⟩], a2, c2), ⟨by simp only; omega, hO1.grow_ex hg3 hE1 (Nat.le_refl _), by simp only; rw [List.length_append, List.length_singleton]; exact ho3, ?_⟩, by simp only; omega, rfl, ?_, trivial⟩, (by (repeat (first | exact agree_mask _ _ _ | refine agree_upd rfl ?_ | refine agree_updO rfl ?_ | refine agree_overIn rfl ?_ | refine agree_maskIn rfl ?_)))⟩
        · simp only
          rw [htk, ← hsd]; exact hsub.snoc hjl
        · show Value.slice a2 (ds.length + 1) c2 = .slice a2 (ds ++ [_]).length c2
          rw [List.length_append, List.length_singleton]
      | false =>
        rw [hbb, if_neg (by decide), List.append_nil] at htk
        repeat' (first | (refine k_lssF rfl rfl (by omega) ?_) | (refine k_pure rfl ?_) | (refine then_normal ?_) | (refine cw_seq ?_) | (refine cw_region rfl ?_) | (refine rr_nil ?_) | (refine k_addI rfl rfl (by omega) (by omega) ?_) | (refine cw_cond_false rfl ?_) | (refine cw_exit ?_) | (refine then_exit ?_) | (refine in_exit ?_) | (refine in_normal ?_) | (refine cw_skip ?_))
        refine ⟨⟨(j + 1, ds, oa, oc), ⟨by simp only; omega, hE1, hO1, by simp only; rw [htk]; exact hsub⟩, by simp only; omega, rfl, rfl, trivial⟩, (by (repeat (first | exact agree_mask _ _ _ | refine agree_upd rfl ?_ | refine agree_updO rfl ?_ | refine agree_overIn rfl ?_ | refine agree_maskIn rfl ?_)))⟩
  · obtain rfl : j = S.length := by omega
    rw [List.take_length] at hsub
    repeat' (first | (refine k_lssF rfl rfl (by omega) ?_) | (refine k_pure rfl ?_) | (refine then_normal ?_) | (refine cw_seq ?_) | (refine cw_region rfl ?_) | (refine rr_nil ?_) | (refine cw_cond_false rfl ?_) | (refine cw_exit ?_) | (refine then_exit ?_) | (refine in_exit ?_) | (refine cw_ret ?_))
    exact ret1 rfl (rt rfl) ⟨hE1, oa, oc, ds, by rw [← hsub.1]; rfl, hsub.lists hS1 hO1.sl⟩
end Go.Proofs.Ythhfjagnmhhapaa

