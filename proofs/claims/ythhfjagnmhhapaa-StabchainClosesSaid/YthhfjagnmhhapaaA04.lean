import Derived.Test.YthhfjagnmhhapaaProg
import Derived.Test.YthhfjagnmhhapaaA01
import Derived.Test.YthhfjagnmhhapaaA02
import Derived.Test.YthhfjagnmhhapaaA03

namespace Go.Proofs.Ythhfjagnmhhapaa
open Go.W
instance s1 : Scal Try.prog 1 := ⟨by kernel_rfl, by kernel_rfl⟩
instance z1 : Zro Try.prog 1 (.nilFunc) := ⟨by kernel_rfl⟩
instance s2 : Scal Try.prog 2 := ⟨by kernel_rfl, by kernel_rfl⟩
instance i2 : IntT Try.prog 2 .i64 := ⟨by kernel_rfl⟩
instance z2 : Zro Try.prog 2 (.int .i64 0) := ⟨by kernel_rfl⟩
instance s3 : Scal Try.prog 3 := ⟨by kernel_rfl, by kernel_rfl⟩
instance i3 : IntT Try.prog 3 .i64 := ⟨by kernel_rfl⟩
instance z3 : Zro Try.prog 3 (.int .i64 0) := ⟨by kernel_rfl⟩
instance s4 : Scal Try.prog 4 := ⟨by kernel_rfl, by kernel_rfl⟩
instance o4 : BoolT Try.prog 4 := ⟨by kernel_rfl⟩
instance z4 : Zro Try.prog 4 (.bool false) := ⟨by kernel_rfl⟩
instance s5 : Scal Try.prog 5 := ⟨by kernel_rfl, by kernel_rfl⟩
instance i5 : IntT Try.prog 5 .u8 := ⟨by kernel_rfl⟩
instance z5 : Zro Try.prog 5 (.int .u8 0) := ⟨by kernel_rfl⟩
instance s6 : Scal Try.prog 6 := ⟨by kernel_rfl, by kernel_rfl⟩
instance z6 : Zro Try.prog 6 (.int .u8 0) := ⟨by kernel_rfl⟩
instance g7 : Agg Try.prog 7 4 := ⟨by kernel_rfl, by kernel_rfl⟩
instance b7 : Str Try.prog 7 [(0, 1), (1, 1), (2, 1), (3, 1)] := ⟨by kernel_rfl⟩
instance z7 : Zro Try.prog 7 (.agg #[.int .i64 0, .int .i64 0, .bool false, .int .u8 0]) := ⟨by kernel_rfl⟩
instance g8 : Agg Try.prog 8 4 := ⟨by kernel_rfl, by kernel_rfl⟩
instance b8 : Str Try.prog 8 [(0, 1), (1, 1), (2, 1), (3, 1)] := ⟨by kernel_rfl⟩
instance z8 : Zro Try.prog 8 (.agg #[.int .i64 0, .int .i64 0, .bool false, .int .u8 0]) := ⟨by kernel_rfl⟩
instance s12 : Scal Try.prog 12 := ⟨by kernel_rfl, by kernel_rfl⟩
instance z12 : Zro Try.prog 12 (.int .u64 0) := ⟨by kernel_rfl⟩
instance b13 : Str Try.prog 13 [(0, 1), (1, 1)] := ⟨by kernel_rfl⟩
instance g14 : Agg Try.prog 14 2 := ⟨by kernel_rfl, by kernel_rfl⟩
instance s15 : Scal Try.prog 15 := ⟨by kernel_rfl, by kernel_rfl⟩
instance z15 : Zro Try.prog 15 (.pointer none) := ⟨by kernel_rfl⟩
instance s16 : Scal Try.prog 16 := ⟨by kernel_rfl, by kernel_rfl⟩
instance s22 : Scal Try.prog 22 := ⟨by kernel_rfl, by kernel_rfl⟩
instance l22 : Slc Try.prog 22 105 1 4 := ⟨by kernel_rfl, by kernel_rfl⟩
instance z23 : Zro Try.prog 23 (.agg #[.bool false, .slice none 0 0]) := ⟨by kernel_rfl⟩
instance g24 : Agg Try.prog 24 2 := ⟨by kernel_rfl, by kernel_rfl⟩
instance f24_0 : Fld Try.prog 24 0 0 := ⟨by kernel_rfl⟩
instance f24_1 : Fld Try.prog 24 1 1 := ⟨by kernel_rfl⟩
instance b24 : Str Try.prog 24 [(0, 1), (1, 1)] := ⟨by kernel_rfl⟩
instance z24 : Zro Try.prog 24 (.agg #[.bool false, .slice none 0 0]) := ⟨by kernel_rfl⟩
instance s28 : Scal Try.prog 28 := ⟨by kernel_rfl, by kernel_rfl⟩
instance l28 : Slc Try.prog 28 3 1 8 := ⟨by kernel_rfl, by kernel_rfl⟩
instance z28 : Zro Try.prog 28 (.slice none 0 0) := ⟨by kernel_rfl⟩
instance s29 : Scal Try.prog 29 := ⟨by kernel_rfl, by kernel_rfl⟩
instance l29 : Slc Try.prog 29 28 1 24 := ⟨by kernel_rfl, by kernel_rfl⟩
instance s33 : Scal Try.prog 33 := ⟨by kernel_rfl, by kernel_rfl⟩
instance l33 : Slc Try.prog 33 39 1 24 := ⟨by kernel_rfl, by kernel_rfl⟩
instance z34 : Zro Try.prog 34 (.agg #[.int .u8 0, .slice none 0 0, .bool false]) := ⟨by kernel_rfl⟩
instance g35 : Agg Try.prog 35 3 := ⟨by kernel_rfl, by kernel_rfl⟩
instance f35_0 : Fld Try.prog 35 0 0 := ⟨by kernel_rfl⟩
instance f35_1 : Fld Try.prog 35 1 1 := ⟨by kernel_rfl⟩
instance f35_2 : Fld Try.prog 35 2 2 := ⟨by kernel_rfl⟩
instance s39 : Scal Try.prog 39 := ⟨by kernel_rfl, by kernel_rfl⟩
instance l39 : Slc Try.prog 39 159 1 1 := ⟨by kernel_rfl, by kernel_rfl⟩
instance l44 : Slc Try.prog 44 5 1 1 := ⟨by kernel_rfl, by kernel_rfl⟩
instance z56 : Zro Try.prog 56 (.nilFunc) := ⟨by kernel_rfl⟩
instance s58 : Scal Try.prog 58 := ⟨by kernel_rfl, by kernel_rfl⟩
instance z67 : Zro Try.prog 67 (.nilFunc) := ⟨by kernel_rfl⟩
instance z78 : Zro Try.prog 78 (.nilFunc) := ⟨by kernel_rfl⟩
instance s79 : Scal Try.prog 79 := ⟨by kernel_rfl, by kernel_rfl⟩
instance i79 : IntT Try.prog 79 .u64 := ⟨by kernel_rfl⟩
instance f82_0 : Fld Try.prog 82 0 0 := ⟨by kernel_rfl⟩
instance f82_1 : Fld Try.prog 82 1 1 := ⟨by kernel_rfl⟩
instance b82 : Str Try.prog 82 [(0, 1), (1, 1)] := ⟨by kernel_rfl⟩
instance z82 : Zro Try.prog 82 (.agg #[.slice none 0 0, .int .i64 0]) := ⟨by kernel_rfl⟩
instance l84 : Slc Try.prog 84 103 3 56 := ⟨by kernel_rfl, by kernel_rfl⟩
instance z89 : Zro Try.prog 89 (.nilFunc) := ⟨by kernel_rfl⟩
instance s93 : Scal Try.prog 93 := ⟨by kernel_rfl, by kernel_rfl⟩
instance l93 : Slc Try.prog 93 110 1 24 := ⟨by kernel_rfl, by kernel_rfl⟩
instance g95 : Agg Try.prog 95 6 := ⟨by kernel_rfl, by kernel_rfl⟩
instance f95_0 : Fld Try.prog 95 0 0 := ⟨by kernel_rfl⟩
instance f95_1 : Fld Try.prog 95 1 1 := ⟨by kernel_rfl⟩
instance f95_2 : Fld Try.prog 95 2 2 := ⟨by kernel_rfl⟩
instance f95_3 : Fld Try.prog 95 3 3 := ⟨by kernel_rfl⟩
instance f95_4 : Fld Try.prog 95 4 4 := ⟨by kernel_rfl⟩
instance f95_5 : Fld Try.prog 95 5 5 := ⟨by kernel_rfl⟩
instance b95 : Str Try.prog 95 [(0, 1), (1, 1), (2, 1), (3, 1), (4, 1), (5, 1)] := ⟨by kernel_rfl⟩
instance z95 : Zro Try.prog 95 (.agg #[.int .i64 0, .slice none 0 0, .slice none 0 0, .slice none 0 0, .slice none 0 0, .slice none 0 0]) := ⟨by kernel_rfl⟩
instance s97 : Scal Try.prog 97 := ⟨by kernel_rfl, by kernel_rfl⟩
instance s98 : Scal Try.prog 98 := ⟨by kernel_rfl, by kernel_rfl⟩
instance l98 : Slc Try.prog 98 152 1 8 := ⟨by kernel_rfl, by kernel_rfl⟩
instance f100_0 : Fld Try.prog 100 0 0 := ⟨by kernel_rfl⟩
instance f100_1 : Fld Try.prog 100 1 1 := ⟨by kernel_rfl⟩
instance f100_2 : Fld Try.prog 100 2 2 := ⟨by kernel_rfl⟩
instance f100_3 : Fld Try.prog 100 3 3 := ⟨by kernel_rfl⟩
instance b100 : Str Try.prog 100 [(0, 1), (1, 1), (2, 1), (3, 1)] := ⟨by kernel_rfl⟩
instance z100 : Zro Try.prog 100 (.agg #[.int .i64 0, .map none, .slice none 0 0, .int .u64 0]) := ⟨by kernel_rfl⟩
instance g103 : Agg Try.prog 103 3 := ⟨by kernel_rfl, by kernel_rfl⟩
instance f103_0 : Fld Try.prog 103 0 0 := ⟨by kernel_rfl⟩
instance f103_1 : Fld Try.prog 103 1 1 := ⟨by kernel_rfl⟩
instance f103_2 : Fld Try.prog 103 2 2 := ⟨by kernel_rfl⟩
instance b103 : Str Try.prog 103 [(0, 1), (1, 1), (2, 1)] := ⟨by kernel_rfl⟩
instance z103 : Zro Try.prog 103 (.agg #[.int .i64 0, .slice none 0 0, .slice none 0 0]) := ⟨by kernel_rfl⟩
instance s105 : Scal Try.prog 105 := ⟨by kernel_rfl, by kernel_rfl⟩
instance i105 : IntT Try.prog 105 .u32 := ⟨by kernel_rfl⟩
instance z105 : Zro Try.prog 105 (.int .u32 0) := ⟨by kernel_rfl⟩
instance s110 : Scal Try.prog 110 := ⟨by kernel_rfl, by kernel_rfl⟩
instance l110 : Slc Try.prog 110 129 1 2 := ⟨by kernel_rfl, by kernel_rfl⟩
instance z110 : Zro Try.prog 110 (.slice none 0 0) := ⟨by kernel_rfl⟩
instance l112 : Slc Try.prog 112 3 1 8 := ⟨by kernel_rfl, by kernel_rfl⟩
instance a119 : Arr Try.prog 119 8 79 1 := ⟨by kernel_rfl, by kernel_rfl⟩
instance g119 : Agg Try.prog 119 8 := ⟨by kernel_rfl, by kernel_rfl⟩
instance z119 : Zro Try.prog 119 (.agg #[.int .u64 0, .int .u64 0, .int .u64 0, .int .u64 0, .int .u64 0, .int .u64 0, .int .u64 0, .int .u64 0]) := ⟨by kernel_rfl⟩
instance s129 : Scal Try.prog 129 := ⟨by kernel_rfl, by kernel_rfl⟩
instance i129 : IntT Try.prog 129 .u16 := ⟨by kernel_rfl⟩
instance z129 : Zro Try.prog 129 (.int .u16 0) := ⟨by kernel_rfl⟩
instance l141 : Slc Try.prog 141 4 1 1 := ⟨by kernel_rfl, by kernel_rfl⟩
instance s152 : Scal Try.prog 152 := ⟨by kernel_rfl, by kernel_rfl⟩
instance z152 : Zro Try.prog 152 (.nilFunc) := ⟨by kernel_rfl⟩
instance s155 : Scal Try.prog 155 := ⟨by kernel_rfl, by kernel_rfl⟩
instance s159 : Scal Try.prog 159 := ⟨by kernel_rfl, by kernel_rfl⟩
instance i159 : IntT Try.prog 159 .i8 := ⟨by kernel_rfl⟩
instance f174_0 : Fld Try.prog 174 0 0 := ⟨by kernel_rfl⟩
instance f174_1 : Fld Try.prog 174 1 1 := ⟨by kernel_rfl⟩
instance f174_2 : Fld Try.prog 174 2 2 := ⟨by kernel_rfl⟩
instance b174 : Str Try.prog 174 [(0, 1), (1, 1), (2, 1)] := ⟨by kernel_rfl⟩
instance z174 : Zro Try.prog 174 (.agg #[.slice none 0 0, .slice none 0 0, .pointer none]) := ⟨by kernel_rfl⟩
instance a177 : Arr Try.prog 177 513 3 1 := ⟨by kernel_rfl, by kernel_rfl⟩
instance g177 : Agg Try.prog 177 513 := ⟨by kernel_rfl, by kernel_rfl⟩
instance l189 : Slc Try.prog 189 191 4 32 := ⟨by kernel_rfl, by kernel_rfl⟩
instance a191 : Arr Try.prog 191 4 79 1 := ⟨by kernel_rfl, by kernel_rfl⟩
instance g191 : Agg Try.prog 191 4 := ⟨by kernel_rfl, by kernel_rfl⟩
instance z191 : Zro Try.prog 191 (.agg #[.int .u64 0, .int .u64 0, .int .u64 0, .int .u64 0]) := ⟨by kernel_rfl⟩
instance c3 : Fun Try.prog 3 := ⟨by kernel_rfl⟩
instance c4 : Fun Try.prog 4 := ⟨by kernel_rfl⟩
instance c5 : Fun Try.prog 5 := ⟨by kernel_rfl⟩
instance c6 : Fun Try.prog 6 := ⟨by kernel_rfl⟩
instance c7 : Fun Try.prog 7 := ⟨by kernel_rfl⟩
instance c8 : Fun Try.prog 8 := ⟨by kernel_rfl⟩
instance c9 : Fun Try.prog 9 := ⟨by kernel_rfl⟩
instance c10 : Fun Try.prog 10 := ⟨by kernel_rfl⟩
instance c11 : Fun Try.prog 11 := ⟨by kernel_rfl⟩
instance c13 : Fun Try.prog 13 := ⟨by kernel_rfl⟩
instance c14 : Fun Try.prog 14 := ⟨by kernel_rfl⟩
instance c15 : Fun Try.prog 15 := ⟨by kernel_rfl⟩
instance c16 : Fun Try.prog 16 := ⟨by kernel_rfl⟩
instance c17 : Fun Try.prog 17 := ⟨by kernel_rfl⟩
instance c18 : Fun Try.prog 18 := ⟨by kernel_rfl⟩
instance c19 : Fun Try.prog 19 := ⟨by kernel_rfl⟩
instance c20 : Fun Try.prog 20 := ⟨by kernel_rfl⟩
instance c21 : Fun Try.prog 21 := ⟨by kernel_rfl⟩
instance c22 : Fun Try.prog 22 := ⟨by kernel_rfl⟩
instance c23 : Fun Try.prog 23 := ⟨by kernel_rfl⟩
instance c24 : Fun Try.prog 24 := ⟨by kernel_rfl⟩
instance c25 : Fun Try.prog 25 := ⟨by kernel_rfl⟩
instance c26 : Fun Try.prog 26 := ⟨by kernel_rfl⟩
instance c27 : Fun Try.prog 27 := ⟨by kernel_rfl⟩
instance c28 : Fun Try.prog 28 := ⟨by kernel_rfl⟩
instance c29 : Fun Try.prog 29 := ⟨by kernel_rfl⟩
instance c30 : Fun Try.prog 30 := ⟨by kernel_rfl⟩
instance c31 : Fun Try.prog 31 := ⟨by kernel_rfl⟩
instance c32 : Fun Try.prog 32 := ⟨by kernel_rfl⟩
instance c33 : Fun Try.prog 33 := ⟨by kernel_rfl⟩
instance c34 : Fun Try.prog 34 := ⟨by kernel_rfl⟩
instance c35 : Fun Try.prog 35 := ⟨by kernel_rfl⟩
instance c39 : Fun Try.prog 39 := ⟨by kernel_rfl⟩
instance c41 : Fun Try.prog 41 := ⟨by kernel_rfl⟩
instance c45 : Fun Try.prog 45 := ⟨by kernel_rfl⟩
instance c46 : Fun Try.prog 46 := ⟨by kernel_rfl⟩
instance c47 : Fun Try.prog 47 := ⟨by kernel_rfl⟩
instance c48 : Fun Try.prog 48 := ⟨by kernel_rfl⟩
instance c49 : Fun Try.prog 49 := ⟨by kernel_rfl⟩
instance c50 : Fun Try.prog 50 := ⟨by kernel_rfl⟩
instance c51 : Fun Try.prog 51 := ⟨by kernel_rfl⟩
instance c52 : Fun Try.prog 52 := ⟨by kernel_rfl⟩
instance c53 : Fun Try.prog 53 := ⟨by kernel_rfl⟩
instance c54 : Fun Try.prog 54 := ⟨by kernel_rfl⟩
instance c55 : Fun Try.prog 55 := ⟨by kernel_rfl⟩
instance c56 : Fun Try.prog 56 := ⟨by kernel_rfl⟩
instance c57 : Fun Try.prog 57 := ⟨by kernel_rfl⟩
instance c58 : Fun Try.prog 58 := ⟨by kernel_rfl⟩
instance c59 : Fun Try.prog 59 := ⟨by kernel_rfl⟩
instance c60 : Fun Try.prog 60 := ⟨by kernel_rfl⟩
instance c61 : Fun Try.prog 61 := ⟨by kernel_rfl⟩
instance c62 : Fun Try.prog 62 := ⟨by kernel_rfl⟩
instance c63 : Fun Try.prog 63 := ⟨by kernel_rfl⟩
instance c64 : Fun Try.prog 64 := ⟨by kernel_rfl⟩
instance c65 : Fun Try.prog 65 := ⟨by kernel_rfl⟩
instance c66 : Fun Try.prog 66 := ⟨by kernel_rfl⟩
instance c67 : Fun Try.prog 67 := ⟨by kernel_rfl⟩
instance c71 : Fun Try.prog 71 := ⟨by kernel_rfl⟩
instance c72 : Fun Try.prog 72 := ⟨by kernel_rfl⟩
instance c73 : Fun Try.prog 73 := ⟨by kernel_rfl⟩
instance c74 : Fun Try.prog 74 := ⟨by kernel_rfl⟩
instance c77 : Fun Try.prog 77 := ⟨by kernel_rfl⟩
instance c78 : Fun Try.prog 78 := ⟨by kernel_rfl⟩
instance c81 : Fun Try.prog 81 := ⟨by kernel_rfl⟩
instance c82 : Fun Try.prog 82 := ⟨by kernel_rfl⟩
instance c83 : Fun Try.prog 83 := ⟨by kernel_rfl⟩
instance c84 : Fun Try.prog 84 := ⟨by kernel_rfl⟩
instance c85 : Fun Try.prog 85 := ⟨by kernel_rfl⟩
instance c86 : Fun Try.prog 86 := ⟨by kernel_rfl⟩
instance c87 : Fun Try.prog 87 := ⟨by kernel_rfl⟩
instance c88 : Fun Try.prog 88 := ⟨by kernel_rfl⟩
instance c89 : Fun Try.prog 89 := ⟨by kernel_rfl⟩
instance c90 : Fun Try.prog 90 := ⟨by kernel_rfl⟩
instance c91 : Fun Try.prog 91 := ⟨by kernel_rfl⟩
instance c92 : Fun Try.prog 92 := ⟨by kernel_rfl⟩
instance c93 : Fun Try.prog 93 := ⟨by kernel_rfl⟩
instance c94 : Fun Try.prog 94 := ⟨by kernel_rfl⟩
instance c95 : Fun Try.prog 95 := ⟨by kernel_rfl⟩
instance c96 : Fun Try.prog 96 := ⟨by kernel_rfl⟩
instance c97 : Fun Try.prog 97 := ⟨by kernel_rfl⟩
instance c98 : Fun Try.prog 98 := ⟨by kernel_rfl⟩
instance c99 : Fun Try.prog 99 := ⟨by kernel_rfl⟩
instance c100 : Fun Try.prog 100 := ⟨by kernel_rfl⟩
instance c101 : Fun Try.prog 101 := ⟨by kernel_rfl⟩
instance c102 : Fun Try.prog 102 := ⟨by kernel_rfl⟩
instance c106 : Fun Try.prog 106 := ⟨by kernel_rfl⟩
instance c107 : Fun Try.prog 107 := ⟨by kernel_rfl⟩
instance c108 : Fun Try.prog 108 := ⟨by kernel_rfl⟩
instance c109 : Fun Try.prog 109 := ⟨by kernel_rfl⟩
instance c110 : Fun Try.prog 110 := ⟨by kernel_rfl⟩
instance c111 : Fun Try.prog 111 := ⟨by kernel_rfl⟩
instance c112 : Fun Try.prog 112 := ⟨by kernel_rfl⟩
instance c113 : Fun Try.prog 113 := ⟨by kernel_rfl⟩
instance c114 : Fun Try.prog 114 := ⟨by kernel_rfl⟩
instance c115 : Fun Try.prog 115 := ⟨by kernel_rfl⟩
instance c116 : Fun Try.prog 116 := ⟨by kernel_rfl⟩
instance c117 : Fun Try.prog 117 := ⟨by kernel_rfl⟩
instance c118 : Fun Try.prog 118 := ⟨by kernel_rfl⟩
instance c132 : Fun Try.prog 132 := ⟨by kernel_rfl⟩
instance c133 : Fun Try.prog 133 := ⟨by kernel_rfl⟩
instance c134 : Fun Try.prog 134 := ⟨by kernel_rfl⟩
instance c135 : Fun Try.prog 135 := ⟨by kernel_rfl⟩
instance c136 : Fun Try.prog 136 := ⟨by kernel_rfl⟩
instance c137 : Fun Try.prog 137 := ⟨by kernel_rfl⟩
instance c138 : Fun Try.prog 138 := ⟨by kernel_rfl⟩
instance c148 : Fun Try.prog 148 := ⟨by kernel_rfl⟩
instance c149 : Fun Try.prog 149 := ⟨by kernel_rfl⟩
instance c151 : Fun Try.prog 151 := ⟨by kernel_rfl⟩
instance c152 : Fun Try.prog 152 := ⟨by kernel_rfl⟩
theorem mixed : Try.prog.follows .mixedOrders = true := by kernel_rfl
end Go.Proofs.Ythhfjagnmhhapaa

namespace Go.W
/-- what a piece of code must leave where ways meet -/
structure Joined {ι : Type} (M : List Nat) (vals : ι → List (Nat × Value)) (J : ι → World → Prop) (ρ0 : Env) (ρ : Env) (w : World) : Prop where
  next : ∃ s, J s w ∧ Has ρ (vals s)
  agree : Agree M ρ ρ0
theorem cw_join {ι : Type} {P : Program} {n : Nat} {Q : Exit → Env → World → Prop} {next : Env → World → Prop} {ρ : Env} {w : World} {x : Code} (M : List Nat) (vals : ι → List (Nat × Value)) (J : ι → World → Prop)
    (h1 : CW P n x (thenE (Joined M vals J ρ) Q) ρ w) (h2 : ∀ s ξ w', J s w' → next (over (vals s) (mask M ρ ξ)) w') : CW P n x (thenE next Q) ρ w := by
  refine h1.mono fun e ρ' w' q => ?_
  cases e <;> unfold thenE at q ⊢
  case normal =>
    obtain ⟨⟨s, hJ, hH⟩, hA⟩ := q
    have := h2 s ρ' w' hJ
    rwa [mask_agree hA, over_has hH] at this
  all_goals exact q
section
variable {P : Program} {S : World → Prop} {ops : List Oper} {K : Env → World → Prop} {rest : List (Oper × Option Bool)} {ρ : Env} {w : World} {b : Option Bool} {kf : Bool} {d : Nat} {dst : Option Nat} {T T' : TypeId} {pos : String} {af : Array Edge}
/-- x[l:h] of a slice that has more cells than l -/
theorem k_sliceLH {x lo hi : Operand} {g o len cap E s y l h : Nat} {k k' : IntKind} [hT : Slc P T' E s y] (hx : ev ρ x = .slice (some ⟨g, o, none⟩) len cap) (hlo : ev ρ lo = .int k (l : Int)) (hhi : ev ρ hi = .int k' (h : Int))
    (h1 : l ≤ h) (h2 : h ≤ cap) (h3 : l < cap) (hh : RR P S ops K rest (upd ρ d (.slice (some ⟨g, o + l * s, none⟩) (h - l) (cap - l))) w) :
    RR P S ops K ((⟨some d, .slice T' x (some lo) (some hi) none, T, pos, af, none⟩, b) :: rest) ρ w := by
  refine rr_pure rfl (fun w' => ?_) hh
  obtain ⟨i0, hi0, hz⟩ := Option.map_eq_some_iff.1 hT.sz
  simp only [Prod.mk.injEq] at hz
  have e : ∀ n, (⟨g, o, none⟩ : Addr).add n = ⟨g, o + n, none⟩ := fun n => by unfold Addr.add; split <;> simp_all
  have h3' : ¬ cap = l := by omega
  simp [execOp, Instr.sliceAt, Instr.slice, Instr.sliceBounds, Instr.sliceBound, hx, hlo, hhi, asIntOf, underlying, hT.un, sizeOf, typeInfo, hi0, hz.1, h1, h2, h3', e]
/-- a store of a number into a block, through a slice that begins at cell o -/
theorem k_storeNo {x y : Operand} {T1 : TypeId} {g o j Tb : Nat} {k : IntKind} {u : Nat} {xs : List Nat} [hT : Scal P T1] (hx : ev ρ x = .pointer (some (elt (some ⟨g, o, none⟩) j))) (hy : ev ρ y = .int k (u : Int))
    (hb : Blk w g Tb (xs.map fun (n : Nat) => Value.int k n)) (ho : o + j < xs.length) (h : ∀ w', Chg g w w' → Blk w' g Tb ((xs.set (o + j) u).map fun (n : Nat) => Value.int k n) → (kf = true → S w → S w') ∧ RR P S ops K rest ρ w') :
    RR P S ops K ((⟨none, .store T1 x y, T, pos, af, none⟩, some kf) :: rest) ρ w :=
  k_store (o := o + j) (by rw [hx]; rfl) hy rfl hb (by simpa using ho) (by rw [List.map_set] at h; exact h)
theorem k_loadNo {x : Operand} {T1 : TypeId} {g o j Tb : Nat} {k : IntKind} {xs : List Nat} [Scal P T1] (hx : ev ρ x = .pointer (some (elt (some ⟨g, o, none⟩) j))) (hs : Rd b S w fun w' => Blk w' g Tb (xs.map fun (n : Nat) => Value.int k n))
    (hj : o + j < xs.length) (h : RR P S ops K rest (upd ρ d (.int k ((xs.getD (o + j) 0 : Nat) : Int))) w) : RR P S ops K ((⟨some d, .load T1 x, T, pos, af, none⟩, b) :: rest) ρ w :=
  k_load hx (hs.imp fun w' hs => by
    have := hs.cell (j := o + j) (by simpa using hj)
    simp only [elt]
    rw [this]
    simp [List.getD_eq_getElem?_getD, hj]) h
/-- naturals without overflow -/
theorem k_addN {x y : Operand} {m m' : Nat} {T'' : TypeId} (hx : ev ρ x = .int .u64 (m : Int)) (hy : ev ρ y = .int .u64 (m' : Int)) (h2 : m + m' < 18446744073709551616)
    (h : RR P S ops K rest (upd ρ d (.int .u64 ((m + m' : Nat) : Int))) w) : RR P S ops K ((⟨some d, .binOp .add T' x y T'', T, pos, af, none⟩, b) :: rest) ρ w :=
  k_addU hx hy (by omega) (by omega) (by rw [← Int.natCast_add]; exact h)
theorem k_mulN {x y : Operand} {m m' : Nat} {T'' : TypeId} (hx : ev ρ x = .int .u64 (m : Int)) (hy : ev ρ y = .int .u64 (m' : Int)) (h2 : m * m' < 18446744073709551616)
    (h : RR P S ops K rest (upd ρ d (.int .u64 ((m * m' : Nat) : Int))) w) : RR P S ops K ((⟨some d, .binOp .mul T' x y T'', T, pos, af, none⟩, b) :: rest) ρ w :=
  k_mul hx hy (by rw [← Int.natCast_mul, wrap_u64 (by omega) (by omega)]; exact h)
/-- uint64(x) of a limb -/
theorem k_up {x : Operand} {m : Nat} {T1 T2 : TypeId} [h1 : IntT P T1 .u32] [h2 : IntT P T2 .u64] (hx : ev ρ x = .int .u32 (m : Int)) (hm : m < 4294967296) (h : RR P S ops K rest (upd ρ d (.int .u64 (m : Int))) w) :
    RR P S ops K ((⟨some d, .convert T1 T2 x, T, pos, af, none⟩, b) :: rest) ρ w :=
  k_convI hx (wrap_u64 (by omega) (by omega)) h
/-- uint32(x) -/
theorem k_down {x : Operand} {m : Nat} {T1 T2 : TypeId} [h1 : IntT P T1 .u64] [h2 : IntT P T2 .u32] (hx : ev ρ x = .int .u64 (m : Int)) (h : RR P S ops K rest (upd ρ d (.int .u32 ((m % 4294967296 : Nat) : Int))) w) :
    RR P S ops K ((⟨some d, .convert T1 T2 x, T, pos, af, none⟩, b) :: rest) ρ w :=
  k_conv hx (by
    rw [show IntKind.u32.wrap ((m : Nat) : Int) = ((m % 4294967296 : Nat) : Int) from (wrap_uns rfl).trans (by simp [IntKind.bits])]
    exact h)
theorem k_shr32 {x y : Operand} {k' : IntKind} {m : Nat} {T'' : TypeId} (hx : ev ρ x = .int .u64 (m : Int)) (hy : ev ρ y = .int k' 32)
    (h : RR P S ops K rest (upd ρ d (.int .u64 ((m / 4294967296 : Nat) : Int))) w) : RR P S ops K ((⟨some d, .binOp .shr T' x y T'', T, pos, af, none⟩, b) :: rest) ρ w :=
  k_shrN (j := 32) hx hy (.inl rfl) (by rw [Nat.shiftRight_eq_div_pow]; exact h)
theorem k_addJ {x y : Operand} {m m' : Nat} {T'' : TypeId} (hx : ev ρ x = .int .i64 (m : Int)) (hy : ev ρ y = .int .i64 (m' : Int)) (h2 : m + m' ≤ 9223372036854775807)
    (h : RR P S ops K rest (upd ρ d (.int .i64 ((m + m' : Nat) : Int))) w) : RR P S ops K ((⟨some d, .binOp .add T' x y T'', T, pos, af, none⟩, b) :: rest) ρ w :=
  k_addI hx hy (by omega) (by omega) (by rw [← Int.natCast_add]; exact h)
end
end Go.W
namespace Go.W
section
variable {P : Program} {S : World → Prop} {ops : List Oper} {K : Env → World → Prop} {rest : List (Oper × Option Bool)} {ρ : Env} {w : World} {b : Option Bool} {kf : Bool} {d : Nat} {dst : Option Nat} {T T' : TypeId} {pos : String} {af : Array Edge}
/-- append to a slice of the call's own of a slice without elements -/
theorem k_append0 {T1 E s y n cap c : Nat} {x1 x2 : Operand} {a ad : Option Addr} [hT : Slc P T1 E s y] (h1 : ev ρ x1 = .slice a n cap) (h2 : ev ρ x2 = .slice ad 0 c) (hn : n ≤ cap)
    (h : RR P S ops K rest (upd ρ d (.slice a n cap)) w) :
    RR P S ops K ((⟨some d, .call ⟨.builtin .append, #[x1, x2], #[T1, T1]⟩, T, pos, af, none⟩, some kf) :: rest) ρ w := by
  refine rr_eff rfl ?_
  unfold OpW
  obtain ⟨i0, hi0, hzz⟩ := Option.map_eq_some_iff.1 hT.sz
  have : (execOp (ev ρ) ⟨some d, .call ⟨.builtin .append, #[x1, x2], #[T1, T1]⟩, T, pos, af, none⟩).run P w = .ok (.value (.slice a n cap)) w := by
    simp [execOp, resolve, invoke, builtin, h1, h2, Builtin.append_, run_underlying hT.un, sizeOf, typeInfo, hi0, Builtin.lenOf, Builtin.firstCells, loadCells, loadCellsFrom]
    cases ad <;> cases a <;> simp [hn, storeCells]
  rw [this]
  exact ⟨fun _ h => h, h⟩
/-- append(nil, x...) -/
theorem k_copy {T1 E y m c : Nat} {x1 x2 : Operand} {ad : Option Addr} {news : List Value} {z : Value} [hT : Slc P T1 E 1 y] [hz : Zro P E z] (h1 : ev ρ x1 = .slice none 0 0) (h2 : ev ρ x2 = .slice ad m c)
    (hzs : (Nat.beq z.cells.size 1) = true) (hnews : Sl w ad news) (hl : news.length = m) (ho : news.all Value.oneCell' = true) (hm : m ≤ 9223372036854775807) (hb : m * y ≤ 140737488355328)
    (h : ∀ a' cap' w', Own w' w.heap.size E 1 a' m cap' news → Ex w w' → (kf = true → S w → S w') ∧ RR P S ops K rest (upd ρ d (.slice a' m cap')) w') :
    RR P S ops K ((⟨some d, .call ⟨.builtin .append, #[x1, x2], #[T1, T1]⟩, T, pos, af, none⟩, some kf) :: rest) ρ w := by
  by_cases h0 : m = 0
  · subst h0
    have hn : news = [] := List.eq_nil_of_length_eq_zero hl
    subst hn
    exact k_append0 h1 h2 (Nat.le_refl _) (h none 0 w (Own.nil _ _ _ _) (Ex.refl _)).2
  · refine k_append (z := z) (s := 1) (c := c) (hzs := Nat.eq_of_beq_eq_true hzs) (hs := rfl) (news := news) (vs := []) (lo := w.heap.size) (h1 := h1) (h2 := h2) (hown := Own.nil _ _ _ _) (hnews := hnews) (hp := hnews.plain (by omega)) (hl := by simp [hl]) (ho := ho) (hm := by omega) (hb := by simpa using hb) (hlo := Nat.le_refl _) ?_
    intro a' cap' w' ho' hg hA
    rw [Nat.zero_add] at ho' ⊢
    exact h a' cap' w' (by simpa using ho') (grown_ex hg (Ex.refl _) (by simp))
end
end Go.W
namespace Go.W
def LsOK (w : World) (k : IntKind) : List SD → List (List Int) → Prop
  | [], [] => True
  | s :: ss, x :: xs => (Sl w s.a (x.map (Value.int k)) ∧ s.len = x.length) ∧ LsOK w k ss xs
  | _, _ => False
theorem LsOK.spec {w : World} {k : IntKind} : ∀ {sds : List SD} {xss : List (List Int)}, LsOK w k sds xss → sds.length = xss.length ∧ ∀ i, i < xss.length → Sl w (sds.getD i sd0).a ((xss.getD i []).map (Value.int k)) ∧ (sds.getD i sd0).len = (xss.getD i []).length
  | [], [], _ => ⟨rfl, fun i hi => by simp at hi⟩
  | _ :: _, [], h => h.elim
  | [], _ :: _, h => h.elim
  | s :: ss, x :: xs, h => by
    obtain ⟨h1, h2⟩ := h
    obtain ⟨h3, h4⟩ := LsOK.spec h2
    refine ⟨by simp [h3], fun i hi => ?_⟩
    cases i with
    | zero => exact h1
    | succ i => exact h4 i (by simpa using hi)
theorem Lists.of {w : World} {k : IntKind} {a : Option Addr} {sds : List SD} {xss : List (List Int)} (h1 : Sl w a (sds.map SD.val)) (h2 : LsOK w k sds xss) : Lists w k a sds xss := ⟨h1, h2.spec.1, h2.spec.2⟩
end Go.W
namespace Go.W
section
variable {P : Program} {S : World → Prop} {ops : List Oper} {K : Env → World → Prop} {rest : List (Oper × Option Bool)} {ρ : Env} {w : World} {b : Option Bool} {kf : Bool} {d : Nat} {dst : Option Nat} {T T' : TypeId} {pos : String} {af : Array Edge}
theorem k_eqlT {x y : Operand} {c : Bool} {T'' : TypeId} [h1 : BoolT P T'] (hx : ev ρ x = .bool c) (hy : ev ρ y = .bool c) (h : RR P S ops K rest (upd ρ d (.bool true)) w) : RR P S ops K ((⟨some d, .binOp .eql T' x y T'', T, pos, af, none⟩, b) :: rest) ρ w :=
  k_eqlB hx hy (by rw [beq_self_eq_true]; exact h)
theorem k_neqF {x y : Operand} {c : Bool} {T'' : TypeId} [h1 : BoolT P T'] (hx : ev ρ x = .bool c) (hy : ev ρ y = .bool c) (h : RR P S ops K rest (upd ρ d (.bool false)) w) : RR P S ops K ((⟨some d, .binOp .neq T' x y T'', T, pos, af, none⟩, b) :: rest) ρ w :=
  k_neqB hx hy (by rw [beq_self_eq_true]; exact h)
theorem k_neqI {x y : Operand} {k : IntKind} {m : Int} {T'' : TypeId} (hx : ev ρ x = .int k m) (hy : ev ρ y = .int k m) (h : RR P S ops K rest (upd ρ d (.bool false)) w) : RR P S ops K ((⟨some d, .binOp .neq T' x y T'', T, pos, af, none⟩, b) :: rest) ρ w :=
  k_neq hx hy (by rw [decide_eq_false (by simp)]; exact h)
end
theorem wf_u8 {n : Int} (h : (Lit.int .u8 n).wf = true) : 0 ≤ n ∧ n ≤ 255 := by simpa [Lit.wf, IntKind.min, IntKind.max, IntKind.signed, IntKind.bits] using h
theorem wf_i8 {n : Int} (h : (Lit.int .i8 n).wf = true) : -128 ≤ n ∧ n ≤ 127 := by simpa [Lit.wf, IntKind.min, IntKind.max, IntKind.signed, IntKind.bits] using h
theorem wf_i64 {n : Int} (h : (Lit.int .i64 n).wf = true) : -9223372036854775808 ≤ n ∧ n ≤ 9223372036854775807 := by simpa [Lit.wf, IntKind.min, IntKind.max, IntKind.signed, IntKind.bits] using h
end Go.W

namespace Go.W
section
variable {P : Program} {S : World → Prop} {ops : List Oper} {K : Env → World → Prop} {rest : List (Oper × Option Bool)} {ρ : Env} {w : World} {b : Option Bool} {kf : Bool} {d : Nat} {dst : Option Nat} {T T' : TypeId} {pos : String} {af : Array Edge}
variable {x y : Operand} {k : IntKind} {m m' : Int} {T'' : TypeId}
theorem k_lssT (hx : ev ρ x = .int k m) (hy : ev ρ y = .int k m') (hd : m < m') (h : RR P S ops K rest (upd ρ d (.bool true)) w) : RR P S ops K ((⟨some d, .binOp .lss T' x y T'', T, pos, af, none⟩, b) :: rest) ρ w :=
  k_lss hx hy (by rw [decide_eq_true hd]; exact h)
theorem k_leqT (hx : ev ρ x = .int k m) (hy : ev ρ y = .int k m') (hd : m ≤ m') (h : RR P S ops K rest (upd ρ d (.bool true)) w) : RR P S ops K ((⟨some d, .binOp .leq T' x y T'', T, pos, af, none⟩, b) :: rest) ρ w :=
  k_leq hx hy (by rw [decide_eq_true hd]; exact h)
theorem k_lssF (hx : ev ρ x = .int k m) (hy : ev ρ y = .int k m') (hd : m' ≤ m) (h : RR P S ops K rest (upd ρ d (.bool false)) w) : RR P S ops K ((⟨some d, .binOp .lss T' x y T'', T, pos, af, none⟩, b) :: rest) ρ w :=
  k_lss hx hy (by rw [decide_eq_false (by omega)]; exact h)
theorem k_geqF (hx : ev ρ x = .int k m) (hy : ev ρ y = .int k m') (hd : m < m') (h : RR P S ops K rest (upd ρ d (.bool false)) w) : RR P S ops K ((⟨some d, .binOp .geq T' x y T'', T, pos, af, none⟩, b) :: rest) ρ w :=
  k_geq hx hy (by rw [decide_eq_false (by omega)]; exact h)
theorem k_gtrT (hx : ev ρ x = .int k m) (hy : ev ρ y = .int k m') (hd : m' < m) (h : RR P S ops K rest (upd ρ d (.bool true)) w) : RR P S ops K ((⟨some d, .binOp .gtr T' x y T'', T, pos, af, none⟩, b) :: rest) ρ w :=
  k_gtr hx hy (by rw [decide_eq_true hd]; exact h)
theorem k_eqF (hx : ev ρ x = .int k m) (hy : ev ρ y = .int k m') (hd : m ≠ m') (h : RR P S ops K rest (upd ρ d (.bool false)) w) : RR P S ops K ((⟨some d, .binOp .eql T' x y T'', T, pos, af, none⟩, b) :: rest) ρ w :=
  k_eql hx hy (by rw [decide_eq_false hd]; exact h)
theorem k_neF (hx : ev ρ x = .int k m) (hy : ev ρ y = .int k m') (hd : m = m') (h : RR P S ops K rest (upd ρ d (.bool false)) w) : RR P S ops K ((⟨some d, .binOp .neq T' x y T'', T, pos, af, none⟩, b) :: rest) ρ w :=
  k_neq hx hy (by rw [decide_eq_false (by simpa using hd)]; exact h)
theorem k_eqT (hx : ev ρ x = .int k m) (hy : ev ρ y = .int k m') (hd : m = m') (h : RR P S ops K rest (upd ρ d (.bool true)) w) : RR P S ops K ((⟨some d, .binOp .eql T' x y T'', T, pos, af, none⟩, b) :: rest) ρ w :=
  k_eql hx hy (by rw [decide_eq_true hd]; exact h)
theorem k_gtrF (hx : ev ρ x = .int k m) (hy : ev ρ y = .int k m') (hd : m ≤ m') (h : RR P S ops K rest (upd ρ d (.bool false)) w) : RR P S ops K ((⟨some d, .binOp .gtr T' x y T'', T, pos, af, none⟩, b) :: rest) ρ w :=
  k_gtr hx hy (by rw [decide_eq_false (by omega)]; exact h)
end
end Go.W
namespace Go.W
theorem k_loadBv {P : Program} {S : World → Prop} {ops : List Oper} {K : Env → World → Prop} {rest : List (Oper × Option Bool)} {ρ : Env} {w : World} {b : Option Bool} {d : Nat} {T : TypeId} {pos : String} {af : Array Edge}
    {x : Operand} {T1 : TypeId} {a : Option Addr} {j : Nat} {xs : List Bool} {c : Bool} [Scal P T1] (hx : ev ρ x = .pointer (some (elt a j))) (hs : Rd b S w fun w' => Sl w' a (xs.map Value.bool))
    (hj : j < xs.length) (hv : xs.getD j false = c) (h : RR P S ops K rest (upd ρ d (.bool c)) w) : RR P S ops K ((⟨some d, .load T1 x, T, pos, af, none⟩, b) :: rest) ρ w :=
  k_loadB hx hs hj (by rw [hv]; exact h)
end Go.W
namespace Go.W
/-- a field of a struct's value -/
theorem k_field {P : Program} {S : World → Prop} {ops : List Oper} {K : Env → World → Prop} {rest : List (Oper × Option Bool)} {ρ : Env} {w : World} {b : Option Bool} {d : Nat} {T T' : TypeId} {pos : String} {af : Array Edge}
    {x : Operand} {f ft off : Nat} {cs : List Value} {v : Value} (hf : (match P.underlying T' with | some (.struct fs) => (fs[f]?).map (fun g => (g.type, g.offset)) | _ => none) = some (ft, off)) [Scal P ft]
    (hx : ev ρ x = .agg cs.toArray) (hv : cs[off]? = some v) (h : RR P S ops K rest (upd ρ d v) w) : RR P S ops K ((⟨some d, .field T' x f, T, pos, af, none⟩, b) :: rest) ρ w := by
  refine rr_pure rfl (fun w' => ?_) h
  split at hf
  · rename_i fs hfs
    obtain ⟨g, hg, e⟩ := Option.map_eq_some_iff.1 hf
    simp only [Prod.mk.injEq] at e
    have ha := run_isAgg_f (P := P) (w := w') (T := ft)
    simp [execOp, Instr.field, hx, underlying, hfs, hg, asAgg, part, e.1, e.2, ha, hv]
  · cases hf
end Go.W

/- Plain mathematics for the layer 16: sets as words, permutations as lists. No program in sight. -/
namespace Go.PM

/-- the words of a set -/
def bit (ws : List Nat) (x : Nat) : Bool := (ws.getD (x / 64) 0).testBit (x % 64)
structure SetOf (ws : List Nat) (l : List Int) : Prop where
  len : ws.length = 8
  lt : ∀ j, ws.getD j 0 < 18446744073709551616
  mem : ∀ x : Nat, x < 512 → (bit ws x = true ↔ (x : Int) ∈ l)
theorem setOf_nil : SetOf [0, 0, 0, 0, 0, 0, 0, 0] [] := by
  refine ⟨rfl, fun j => ?_, fun x hx => ?_⟩
  · rcases j with _ | _ | _ | _ | _ | _ | _ | _ | j <;> simp
  · have : x / 64 < 8 := by omega
    unfold bit
    generalize x / 64 = q at *
    rcases q with _ | _ | _ | _ | _ | _ | _ | _ | q <;> first | (simp; done) | omega
theorem bit_eq (ws : List Nat) (x : Nat) : (((ws.getD (x / 64) 0) >>> (x % 64) &&& 1 : Nat) : Int) = 1 ↔ bit ws x = true := by
  unfold bit Nat.testBit
  rw [Nat.and_comm]
  simp only [bne_iff_ne, ne_eq]
  have h : 1 &&& (ws.getD (x / 64) 0) >>> (x % 64) < 2 := by rw [Nat.and_comm, Nat.and_one_is_mod]; omega
  omega
theorem setOf_with {ws : List Nat} {l : List Int} (h : SetOf ws l) {x : Nat} (hx : x < 512) : SetOf (ws.set (x / 64) (ws.getD (x / 64) 0 ||| 1 <<< (x % 64))) (l ++ [(x : Int)]) := by
  have h8 : x / 64 < ws.length := by rw [h.len]; omega
  have hp : 1 <<< (x % 64) < 18446744073709551616 := by
    rw [Nat.one_shiftLeft]
    have : 2 ^ (x % 64) < 2 ^ 64 := Nat.pow_lt_pow_right (by omega) (by omega)
    omega
  refine ⟨by simp [h.len], fun j => ?_, fun y hy => ?_⟩
  · simp only [List.getD_eq_getElem?_getD, List.getElem?_set]
    split
    · have h1 := h.lt (x / 64)
      simp only [List.getD_eq_getElem?_getD] at h1
      exact Nat.or_lt_two_pow (n := 64) h1 hp
    · have := h.lt j; simpa [List.getD_eq_getElem?_getD] using this
  · rw [List.mem_append, ← h.mem y hy]
    unfold bit
    simp only [List.getD_eq_getElem?_getD, List.getElem?_set]
    split
    · rename_i e
      rw [e]
      simp only [Option.getD_some, Nat.testBit_or, Nat.one_shiftLeft, Nat.testBit_two_pow, Bool.or_eq_true, decide_eq_true_eq, List.mem_singleton]
      have : (x % 64 = y % 64) ↔ ((y : Int) = x) := by omega
      rw [this]
    · rename_i e
      constructor
      · exact .inl
      · rintro (h | h)
        · exact h
        · simp only [List.mem_singleton] at h; omega

/-- lists that are permutations -/
def Dist (n : Nat) (l : List Int) : Prop := (∀ y ∈ l, 0 ≤ y ∧ y < n) ∧ l.Nodup
def IsPerm (p : List Int) : Prop := 1 ≤ p.length ∧ p.length ≤ 512 ∧ Dist p.length p
instance (n : Nat) (l : List Int) : Decidable (Dist n l) := by unfold Dist; infer_instance
instance (p : List Int) : Decidable (IsPerm p) := by unfold IsPerm; infer_instance
theorem good_nil (n : Nat) : Dist n [] := ⟨by simp, by simp⟩
theorem take_succ_getD {α : Type} (l : List α) (d : α) {k : Nat} (h : k < l.length) : l.take (k + 1) = l.take k ++ [l.getD k d] := by
  rw [List.take_succ_eq_append_getElem h, List.getD_eq_getElem?_getD, List.getElem?_eq_getElem h]; rfl
theorem good_snoc {n : Nat} {l : List Int} {y : Int} : Dist n (l ++ [y]) ↔ Dist n l ∧ 0 ≤ y ∧ y < n ∧ y ∉ l := by
  unfold Dist
  simp only [List.mem_append, List.mem_singleton, List.nodup_append]
  constructor
  · rintro ⟨h1, h2, _, h3⟩
    exact ⟨⟨fun z hz => h1 z (.inl hz), h2⟩, (h1 y (.inr rfl)).1, (h1 y (.inr rfl)).2, fun hy => h3 y hy y rfl rfl⟩
  · rintro ⟨⟨h1, h2⟩, h3, h4, h5⟩
    refine ⟨?_, h2, by simp, fun a ha b hb => ?_⟩
    · rintro z (hz | rfl)
      · exact h1 z hz
      · exact ⟨h3, h4⟩
    · subst hb; exact fun e => h5 (e ▸ ha)
theorem good_take {n : Nat} {l : List Int} (h : Dist n l) (k : Nat) : Dist n (l.take k) :=
  ⟨fun y hy => h.1 y (List.mem_of_mem_take hy), h.2.sublist (List.take_sublist k l)⟩
end Go.PM
namespace Go.PM
theorem take_set_succ {α : Type} {l : List α} {k : Nat} {u : α} (h : k < l.length) : (l.set k u).take (k + 1) = l.take k ++ [u] := by
  rw [List.take_succ_eq_append_getElem (by simpa using h), List.take_set_of_le (Nat.le_refl k)]
  simp
theorem getD_mem {α : Type} {l : List α} {k : Nat} {d : α} (h : k < l.length) : l.getD k d ∈ l := by
  rw [List.getD_eq_getElem?_getD, List.getElem?_eq_getElem h]; exact List.getElem_mem h
theorem IsPerm.lt {p : List Int} (h : IsPerm p) {k : Nat} (hk : k < p.length) : 0 ≤ p.getD k 0 ∧ p.getD k 0 < p.length := h.2.2.1 _ (getD_mem hk)
/-- first p, then q -/
def mulP (p q : List Int) : List Int := p.map fun y => q.getD y.toNat 0
theorem mulP_length (p q : List Int) : (mulP p q).length = p.length := by simp [mulP]
theorem mulP_snoc {p q : List Int} {k : Nat} (h : k < p.length) : mulP (p.take (k + 1)) q = mulP (p.take k) q ++ [q.getD (p.getD k 0).toNat 0] := by
  rw [take_succ_getD p 0 h, mulP, List.map_append]; rfl
def composeF (p q : List Int) : List Int × Bool := if p.length = q.length ∧ IsPerm p ∧ IsPerm q then (mulP p q, true) else ([], false)
end Go.PM
namespace Go.PM
/-! making permutations -/
def idList (n : Nat) : List Int := (List.range n).map fun (k : Nat) => (k : Int)
theorem idList_length (n : Nat) : (idList n).length = n := by simp [idList]
theorem idList_succ (n : Nat) : idList (n + 1) = idList n ++ [(n : Int)] := by simp [idList, List.range_succ]
theorem idList_getD {n k : Nat} (h : k < n) : (idList n).getD k 0 = k := by simp [idList, List.getD_eq_getElem?_getD, h]
theorem nodup_iff {l : List Int} : l.Nodup ↔ ∀ i j, i < j → j < l.length → l.getD i 0 ≠ l.getD j 0 := by
  unfold List.Nodup
  rw [List.pairwise_iff_getElem]
  constructor
  · intro h i j hij hj
    have := h i j (by omega) hj hij
    simpa [List.getD_eq_getElem?_getD, hj, show i < l.length by omega] using this
  · intro h i j hi hj hij
    have := h i j hij hj
    simpa [List.getD_eq_getElem?_getD, hj, hi] using this
theorem mem_iff_getD {l : List Int} {y : Int} : y ∈ l ↔ ∃ k, k < l.length ∧ l.getD k 0 = y := by
  rw [List.mem_iff_getElem]
  constructor
  · rintro ⟨k, hk, rfl⟩; exact ⟨k, hk, by simp [List.getD_eq_getElem?_getD, hk]⟩
  · rintro ⟨k, hk, rfl⟩; exact ⟨k, hk, by simp [List.getD_eq_getElem?_getD, hk]⟩
theorem dist_iff {n : Nat} {l : List Int} : Dist n l ↔ (∀ k, k < l.length → 0 ≤ l.getD k 0 ∧ l.getD k 0 < n) ∧ ∀ i j, i < j → j < l.length → l.getD i 0 ≠ l.getD j 0 := by
  unfold Dist
  rw [nodup_iff]
  constructor
  · rintro ⟨h1, h2⟩; exact ⟨fun k hk => h1 _ (getD_mem hk), h2⟩
  · rintro ⟨h1, h2⟩
    refine ⟨fun y hy => ?_, h2⟩
    obtain ⟨k, hk, rfl⟩ := mem_iff_getD.1 hy
    exact h1 k hk
theorem ext_getD {l l' : List Int} (h : l.length = l'.length) (he : ∀ k, k < l.length → l.getD k 0 = l'.getD k 0) : l = l' := by
  apply List.ext_getElem h
  intro k h1 h2
  have := he k h1
  simpa [List.getD_eq_getElem?_getD, h1, h2] using this
def swapL (l : List Int) (i j : Nat) : List Int := (l.set i (l.getD j 0)).set j (l.getD i 0)
theorem swapL_length (l : List Int) (i j : Nat) : (swapL l i j).length = l.length := by simp [swapL]
theorem swapL_getD {l : List Int} {i j : Nat} (hi : i < l.length) (hj : j < l.length) (k : Nat) : (swapL l i j).getD k 0 = if k = j then l.getD i 0 else if k = i then l.getD j 0 else l.getD k 0 := by
  simp only [swapL, List.getD_eq_getElem?_getD, List.getElem?_set, List.length_set]
  by_cases h1 : k = j
  · subst h1; simp [hj]
  · rw [if_neg (Ne.symm h1), if_neg h1]
    by_cases h2 : k = i
    · subst h2; simp [hi]
    · rw [if_neg (Ne.symm h2), if_neg h2]
theorem swapL_dist {n : Nat} {l : List Int} {i j : Nat} (hi : i < l.length) (hj : j < l.length) (h : Dist n l) : Dist n (swapL l i j) := by
  rw [dist_iff] at *
  simp only [swapL_length, swapL_getD hi hj]
  obtain ⟨h1, h2⟩ := h
  have h2' : ∀ a b, a < l.length → b < l.length → a ≠ b → l.getD a 0 ≠ l.getD b 0 := fun a b ha hb hab => by
    rcases Nat.lt_or_gt_of_ne hab with h | h
    · exact h2 a b h hb
    · exact (h2 b a h ha).symm
  refine ⟨fun k hk => ?_, fun a b hab hb => ?_⟩
  · split
    · exact h1 i hi
    · split
      · exact h1 j hj
      · exact h1 k hk
  · split <;> split <;> (try split) <;> (try split) <;> first | omega | (apply h2' <;> omega)
theorem idList_dist (n : Nat) : Dist n (idList n) := by
  rw [dist_iff]
  simp only [idList_length]
  exact ⟨fun k hk => by rw [idList_getD hk]; omega, fun i j hij hj => by rw [idList_getD hj, idList_getD (by omega)]; omega⟩
/-- where a tape stands behind a Next -/
def tAt (L : List Int) (k : Nat) : Nat := if k < L.length then k + 1 else k
theorem tAt_le {L : List Int} {k : Nat} (h : k ≤ L.length) : tAt L k ≤ L.length := by unfold tAt; split <;> omega
def shuffle (L : List Int) : Nat → Nat → List Int → List Int
  | 0, _, out => out
  | i + 1, k, out => shuffle L i (tAt L k) (swapL out (i + 1) (i + 1 - (L.getD k 0 % 256 % ((i : Int) + 2)).toNat))
def permF (L : List Int) (n : Nat) : List Int := shuffle L (n - 1) 0 (idList n)
theorem shuffle_dist {L : List Int} {n : Nat} : ∀ (i k : Nat) (out : List Int), i < out.length → Dist n out → Dist n (shuffle L i k out) ∧ (shuffle L i k out).length = out.length
  | 0, _, out, _, h => ⟨h, rfl⟩
  | i + 1, k, out, hi, h => by
    have := shuffle_dist (L := L) (n := n) i (tAt L k) (swapL out (i + 1) (i + 1 - (L.getD k 0 % 256 % ((i : Int) + 2)).toNat)) (by rw [swapL_length]; omega) (swapL_dist hi (by omega) h)
    rw [swapL_length] at this
    exact this
theorem permF_length (L : List Int) {n : Nat} (h : 1 ≤ n) : (permF L n).length = n := by
  have := (shuffle_dist (L := L) (n := n) (n - 1) 0 (idList n) (by rw [idList_length]; omega) (idList_dist n)).2
  rw [idList_length] at this; exact this
theorem permF_isPerm (L : List Int) {n : Nat} (h : 1 ≤ n) (h2 : n ≤ 512) : IsPerm (permF L n) := by
  have := (shuffle_dist (L := L) (n := n) (n - 1) 0 (idList n) (by rw [idList_length]; omega) (idList_dist n)).1
  unfold IsPerm
  rw [permF_length L h]
  exact ⟨h, h2, this⟩
end Go.PM

namespace Go.Proofs.Ythhfjagnmhhapaa
open Go.W Go.PM

abbrev int8L (xs : List Int) : List Value := xs.map (Value.int .i8)
def I8 (L : List Int) : Prop := L.length ≤ 9223372036854775807 ∧ ∀ x ∈ L, -128 ≤ x ∧ x ≤ 127
theorem I8.getD {L : List Int} (h : I8 L) (k : Nat) : -128 ≤ L.getD k 0 ∧ L.getD k 0 ≤ 127 := by
  by_cases hk : k < L.length
  · exact h.2 _ (getD_mem hk)
  · rw [List.getD_eq_getElem?_getD, List.getElem?_eq_none (by omega)]; simp
abbrev tapeL (la : Option Addr) (n lc k : Nat) : List Value := [.slice la n lc, .int .i64 (k : Int)]

theorem next_spec {L : List Int} {k g lc : Nat} {la : Option Addr} {w : World} (hb : Blk w g 82 (tapeL la L.length lc k)) (hL : Sl w la (int8L L)) (hr : I8 L) (hne : 0 < L.length → ∀ ad, la = some ad → ad.block ≠ g)
    (hk : k ≤ L.length) : CallsR Try.prog 89 #[.pointer (some ⟨g, 0, none⟩)] w fun v w' =>
      v = .int .i64 (L.getD k 0) ∧ Chg g w w' ∧ Blk w' g 82 (tapeL la L.length lc (tAt L k)) := by
  have hlen := hr.1
  have hx := hr.getD k
  refine callsR_of (args := [_]) Try.func89 rfl rfl ?_
  repeat' (first | (refine k_pure rfl ?_) | (refine then_normal ?_) | (refine cw_seq ?_) | (refine cw_region rfl ?_) | (refine rr_nil ?_))
  refine cw_draw (late := []) (plan := [(0, none), (1, none), (2, none), (3, none), (4, none), (5, none), (6, none), (7, none), (8, none), (9, none)]) (fun w' => Blk w' g 82 (tapeL la L.length lc k)) mixed (by kernel_rfl) hb.drew ?_
  repeat' (first | (refine k_loadC rfl (fun _ h => h) rfl ?_) | (refine k_pure rfl ?_) | (refine then_normal ?_) | (refine cw_seq ?_) | (refine cw_region rfl ?_) | (refine rr_nil ?_) | (refine k_len rfl ?_) | (refine k_fieldAddr rfl ?_) | (refine cw_cond_dec rfl (fun hc => ?_) (fun hc => ?_)) | (refine cw_ret ?_) | (refine then_ret ?_) | (refine cw_skip ?_))
  · refine ret1 rfl (rt rfl) ⟨?_, (Chg.refl g w).drew, ?_⟩
    · rw [List.getD_eq_getElem?_getD, List.getElem?_eq_none (by omega)]; rfl
    · rw [tAt, if_neg (by omega)]; exact hb.drew
  · replace hb := hb.drew
    repeat' (first | (refine k_loadC rfl hb rfl ?_) | (refine k_storeC rfl rfl rfl hb rfl (fun w2 hc2 hb2 => ⟨fun _ _ => trivial, ?_⟩)) | (refine k_pure rfl ?_) | (refine then_normal ?_) | (refine cw_seq ?_) | (refine rr_nil ?_) | (refine k_addI rfl rfl (by omega) (by omega) ?_) | (refine k_fieldAddr rfl ?_))
    have hc2' := (Chg.trans (Chg.drew (Chg.refl g w)) hc2)
    have hL2 := (hL.drew).chg hc2 (hne (by omega))
    refine cw_draw (late := []) (plan := [(0, none), (1, none), (2, none), (3, none), (4, none), (5, none), (6, none), (7, none), (8, none), (9, none), (10, none), (11, none), (12, none)]) (fun w' => Blk w' g 82 [.slice la L.length lc, .int .i64 ((k : Int) + 1)] ∧ Sl w' la (int8L L)) mixed (by kernel_rfl) ⟨hb2.drew, hL2.drew⟩ ?_
    repeat' (first | (refine k_loadC rfl (fun _ h => h.1) rfl ?_) | (refine k_indexN (j := k) rfl (by show Value.int .i64 ((k : Int) + 1 - 1) = _; rw [Int.add_sub_cancel]) (hL.plain (by simp; omega)) (by omega) ?_) | (refine k_loadI rfl (fun _ h => h.2) (by omega) ?_) | (refine k_convI rfl (wrap_i64 (by omega) (by omega)) ?_) | (refine k_pure rfl ?_) | (refine then_normal ?_) | (refine rr_nil ?_) | (refine k_subI rfl rfl (by omega) (by omega) ?_) | (refine k_fieldAddr rfl ?_) | (refine cw_ret ?_))
    refine ret1 rfl (rt rfl) ⟨rfl, hc2'.drew, ?_⟩
    rw [tAt, if_pos (by omega)]
    exact hb2.drew

theorem below_spec {L : List Int} {k g lc : Nat} {la : Option Addr} {w : World} (hb : Blk w g 82 (tapeL la L.length lc k)) (hL : Sl w la (int8L L)) (hr : I8 L) (hne : 0 < L.length → ∀ ad, la = some ad → ad.block ≠ g)
    (hk : k ≤ L.length) (n : Int) (hn : 0 < n) : CallsR Try.prog 50 #[.pointer (some ⟨g, 0, none⟩), .int .i64 n] w fun v w' =>
      v = .int .i64 (L.getD k 0 % 256 % n) ∧ Chg g w w' ∧ Blk w' g 82 (tapeL la L.length lc (tAt L k)) := by
  have hx := hr.getD k
  refine callsR_of (args := [_, _]) Try.func50 rfl rfl ?_
  repeat' (first | (refine k_pure rfl ?_) | (refine then_normal ?_) | (refine cw_seq ?_) | (refine cw_region rfl ?_) | (refine rr_nil ?_))
  refine k_call (next_spec hb hL hr hne hk) rfl ?_
  rintro v w1 ⟨rfl, hc1, hb1⟩
  refine ⟨fun _ _ => trivial, ?_⟩
  refine k_conv rfl ?_
  rw [show IntKind.u8.wrap (L.getD k 0) = L.getD k 0 % 256 from wrap_uns rfl]
  repeat' (first | (refine k_convI rfl (wrap_i64 (by omega) (by omega)) ?_) | (refine k_rem rfl rfl (by omega) (by omega) ?_) | (refine k_pure rfl ?_) | (refine then_normal ?_) | (refine rr_nil ?_) | (refine cw_ret ?_))
  exact ret1 rfl (rt rfl) ⟨rfl, hc1, hb1⟩
end Go.Proofs.Ythhfjagnmhhapaa

namespace Go.Proofs.Ythhfjagnmhhapaa
open Go.W Go.PM
abbrev intsL (xs : List Int) : List Value := xs.map (Value.int .i64)

theorem perm_spec {L : List Int} {la : Option Addr} {w : World} (hL : Sl w la (int8L L)) (hr : I8 L) (lc n : Nat) (h1 : 1 ≤ n) (h2 : n ≤ 512) :
    CallsR Try.prog 22 #[.slice la L.length lc, .int .i64 (n : Int)] w fun v w' =>
      ∃ b c, v = .slice b (permF L n).length c ∧ Own w' w.heap.size 3 1 b (permF L n).length c (intsL (permF L n)) ∧ Ex w w' := by
  have hlt : 0 < L.length → ∀ ad, la = some ad → ad.block < w.heap.size := fun h ad e => hL.lt (by simpa using h) ad e
  refine callsR_of (args := [_, _]) Try.func22 rfl rfl ?_
  repeat' (first | (refine k_build (cs := tapeL la L.length lc 0) rfl ?_) | (refine k_boxA rfl (fun g w1 hn => ⟨fun _ _ => trivial, ?_⟩)) | (refine k_pure rfl ?_) | (refine then_normal ?_) | (refine cw_seq ?_) | (refine cw_region rfl ?_) | (refine rr_nil ?_) | (refine cw_block ?_))
  have hg := hn.lo
  have hne : 0 < L.length → ∀ ad, la = some ad → ad.block ≠ g := fun h ad e => by have := hlt h ad e; omega
  refine cw_loop (ι := Nat × Option Addr × Nat) [6, 7, 13, 14, 15, 16, 17, 18, 19, 20, 21] (fun s => [(7, .int .i64 (s.1 : Int)), (6, .slice s.2.1 s.1 s.2.2)])
    (fun s w' => s.1 ≤ n ∧ Ex w w' ∧ Ex w1 w' ∧ Own w' w1.heap.size 3 1 s.2.1 s.1 s.2.2 (intsL (idList s.1))) (fun s => n - s.1)
    (0, none, 0) ⟨rfl, rfl, trivial⟩ ⟨by simp, hn.ex, Ex.refl _, Own.nil _ _ _ _⟩ ?_
  rintro ⟨k, b, c⟩ ξ w2 ⟨hk, hE, hE1, hO⟩
  simp only at hk hO
  show CW _ _ _ _ (over [(7, .int .i64 (k : Int)), (6, .slice b k c)] _) w2
  repeat' (first | (refine k_pure rfl ?_) | (refine then_normal ?_) | (refine cw_seq ?_) | (refine cw_region rfl ?_) | (refine rr_nil ?_) | (refine k_subI rfl rfl (by omega) (by omega) ?_) | (refine cw_cond_dec rfl (fun hc => ?_) (fun hc => ?_)) | (refine cw_block ?_) | (refine cw_exit ?_) | (refine then_exit ?_) | (refine in_exit ?_) | (refine cw_skip ?_))
  · refine k_app1I rfl rfl rfl rfl hO (by omega) (by omega) hE1.size (fun g b' c' w3 hO3 hG3 _ => ?_)
    repeat' (first | (refine k_pure rfl ?_) | (refine then_normal ?_) | (refine cw_region rfl ?_) | (refine rr_nil ?_) | (refine k_addI rfl rfl (by omega) (by omega) ?_) | (refine in_normal ?_))
    refine ⟨⟨(k + 1, b', c'), ⟨by simp only; omega, hO.grow_ex hG3 hE hn.ex.size, hO.grow_ex hG3 hE1 (Nat.le_refl _), by simp only [idList_succ]; exact hO3⟩, by simp only; omega, rfl, rfl, trivial⟩, (by (repeat (first | exact agree_mask _ _ _ | refine agree_upd rfl ?_ | refine agree_updO rfl ?_ | refine agree_overIn rfl ?_ | refine agree_maskIn rfl ?_)))⟩
  · obtain rfl : k = n := by omega
    have hbt := hn.blk.ext hE1
    refine cw_loop (ι := Nat × Nat × List Int) [8, 9, 24, 25, 26, 27, 28, 29, 30, 31, 32, 33, 34, 35, 36, 37, 38, 39, 40, 41, 42, 43, 44, 45, 46, 47] (fun s => [(8, .int .i64 (s.1 : Int))])
      (fun s w' => s.1 < k ∧ Ex w w' ∧ Blk w' g 82 (tapeL la L.length lc s.2.1) ∧ s.2.1 ≤ L.length ∧ Own w' w1.heap.size 3 1 b k c (intsL s.2.2) ∧ s.2.2.length = k ∧ shuffle L s.1 s.2.1 s.2.2 = permF L k) (fun s => s.1)
      (k - 1, 0, idList k) ⟨by show Value.int .i64 ((k : Int) - 1) = _; congr 1; simp only; omega, trivial⟩ ⟨by simp only; omega, hE, hbt, by simp, hO, by simp [idList_length], rfl⟩ ?_
    rintro ⟨i, m, out⟩ ξ2 w3 ⟨hi, hE3, hb3, hm, hO3, hol, hsh⟩
    simp only at hi hb3 hm hO3 hol hsh
    show CW _ _ _ _ (over [(8, .int .i64 (i : Int))] _) w3
    repeat' (first | (refine k_pure rfl ?_) | (refine then_normal ?_) | (refine cw_seq ?_) | (refine cw_region rfl ?_) | (refine rr_nil ?_) | (refine k_addI rfl rfl (by omega) (by omega) ?_) | (refine cw_cond_dec rfl (fun hc => ?_) (fun hc => ?_)) | (refine cw_block ?_) | (refine cw_exit ?_) | (refine then_exit ?_) | (refine in_exit ?_) | (refine cw_ret ?_) | (refine cw_skip ?_))
    · obtain ⟨i, rfl⟩ : ∃ i', i = i' + 1 := ⟨i - 1, by omega⟩
      refine k_call (below_spec hb3 (hL.ext hE3) hr hne hm _ (by omega)) rfl ?_
      rintro v w4 ⟨rfl, hc4, hb4⟩
      refine ⟨fun _ _ => trivial, ?_⟩
      have hO4 := hO3.chg hc4 (fun ad e => by have := (hO3.lo ad e).1; have := hn.hi; omega)
      have hE4 := hE3.chg hc4 hg
      have hmod : 0 ≤ L.getD m 0 % 256 % ((i : Int) + 2) ∧ L.getD m 0 % 256 % ((i : Int) + 2) < (i : Int) + 2 := ⟨Int.emod_nonneg _ (by omega), Int.emod_lt_of_pos _ (by omega)⟩
      rw [show ((i + 1 : Nat) : Int) + 1 = (i : Int) + 2 by omega]
      obtain ⟨x, hx⟩ : ∃ x : Nat, L.getD m 0 % 256 % ((i : Int) + 2) = x := ⟨_, (Int.toNat_of_nonneg hmod.1).symm⟩
      have hsh' : shuffle L i (tAt L m) (swapL out (i + 1) (i + 1 - x)) = permF L k := by rw [← hsh, shuffle, hx, Int.toNat_natCast]
      rw [hx] at hmod ⊢
      refine k_subI rfl rfl (by omega) (by omega) ?_
      obtain ⟨j, hj⟩ : ∃ j, j = i + 1 - x := ⟨_, rfl⟩
      rw [show ((i + 1 : Nat) : Int) - (x : Int) = (j : Int) by omega]
      rw [← hj] at hsh'
      repeat' (first | (refine k_pure rfl ?_) | (refine then_normal ?_) | (refine rr_nil ?_))
      have hpl := hO4.sl.plain (by simp; omega)
      refine cw_draw (late := [13, 15]) (plan := [(0, none), (1, none), (2, none), (3, none), (4, none), (5, none), (6, none), (7, none), (8, none), (9, none), (10, none), (11, none), (12, none), (13, some false), (14, none), (15, some false)]) (fun w' => Own w' w1.heap.size 3 1 b k c (intsL out)) mixed (by kernel_rfl) hO4.drew ?_
      repeat' (first | (refine k_indexN rfl rfl hpl (by omega) ?_) | (refine k_loadI rfl (fun _ h => h.sl) (by omega) ?_) | (refine k_pure rfl ?_))
      refine k_storeOwn rfl rfl rfl hO4.drew (by simp; omega) (fun gb w5 hgb hlo5 hc5 hO5 => ⟨fun h => absurd h (by decide), ?_⟩)
      replace hO5 := hO5.setI
      repeat' (first | (refine k_indexN rfl rfl hpl (by omega) ?_))
      refine k_storeOwn rfl rfl rfl hO5 (by simp; omega) (fun gb2 w6 hgb2 hlo6 hc6 hO6 => ⟨fun h => absurd h (by decide), ?_⟩)
      replace hO6 := hO6.setI
      obtain rfl : gb = gb2 := by rw [hgb] at hgb2; simpa using hgb2
      have hng : g ≠ gb := by have := hn.hi; omega
      repeat' (first | (refine k_pure rfl ?_) | (refine then_normal ?_) | (refine cw_region rfl ?_) | (refine rr_nil ?_) | (refine k_subI rfl rfl (by omega) (by omega) ?_) | (refine in_normal ?_))
      refine ⟨⟨(i, tAt L m, swapL out (i + 1) j), ⟨by simp only; omega, (hE4.drew.chg hc5 (by have := hn.ex.size; omega)).chg hc6 (by have := hn.ex.size; omega), ((hb4.drew).chg hc5 hng).chg hc6 hng, tAt_le hm, hO6, by simp only [swapL_length, hol], hsh'⟩, by simp only; omega, ?_, trivial⟩, (by (repeat (first | exact agree_mask _ _ _ | refine agree_upd rfl ?_ | refine agree_updO rfl ?_ | refine agree_overIn rfl ?_ | refine agree_maskIn rfl ?_)))⟩
      show Value.int .i64 (((i + 1 : Nat) : Int) - 1) = _
      congr 1; simp only; omega
    · obtain rfl : i = 0 := by omega
      refine ret1 rfl (rt rfl) ⟨b, c, ?_, ?_, hE3⟩
      · rw [permF_length L h1]; rfl
      · rw [permF_length L h1, ← hsh]; exact hO3.mono hn.ex.size
end Go.Proofs.Ythhfjagnmhhapaa

namespace Go.Proofs.Ythhfjagnmhhapaa
open Go.W Go.PM

abbrev wordsL (ws : List Nat) : List Value := ws.map fun (n : Nat) => Value.int .u64 n
-- abbrev intsL (xs : List Int) : List Value := xs.map (Value.int .i64)

theorem has_nat {ws : List Nat} {l : List Int} (hs : SetOf ws l) (x : Nat) (h1 : x < 512) (w : World) :
    CallsR Try.prog 102 #[.agg (wordsL ws).toArray, .int .i64 (x : Int)] w fun v w' => v = .bool (decide ((x : Int) ∈ l)) ∧ Ex w w' := by
  have hl := hs.len
  have hw := hs.lt
  refine callsR_of (args := [_, _]) Try.func102 rfl rfl ?_
  repeat' (first | (refine k_boxA rfl (fun g w' hn => ⟨fun _ _ => trivial, ?_⟩)) | (refine k_pure rfl ?_) | (refine then_normal ?_) | (refine cw_seq ?_) | (refine cw_region rfl ?_) | (refine rr_nil ?_))
  refine k_quoI rfl rfl (by omega) (by omega) (by omega) ?_
  refine k_indexA1 (j := x / 64) rfl rfl (by omega) ?_
  refine k_loadN rfl hn.blk.sl (by omega) ?_
  repeat' (first | (refine k_pure rfl ?_))
  refine k_rem rfl rfl (by omega) (by omega) ?_
  refine k_shrN (j := x % 64) rfl rfl (.inr (by simp only [IntKind.bits]; omega)) ?_
  refine k_andN (m' := 1) rfl rfl rfl (by have := hw (x / 64); have h2 := Nat.shiftRight_le (ws.getD (x/64) 0) (x % 64); simp only [IntKind.bits]; omega) (by decide) ?_
  repeat' (first | (refine k_pure rfl ?_) | (refine then_normal ?_) | (refine rr_nil ?_) | (refine cw_ret ?_))
  refine ret1 rfl (rt rfl) ?_
  refine ⟨?_, hn.ex⟩
  exact congrArg Value.bool (decide_eq_decide.2 ((bit_eq ws x).trans (hs.mem x h1)))

theorem with_nat {ws : List Nat} {l : List Int} (hs : SetOf ws l) (x : Nat) (h1 : x < 512) (w : World) :
    CallsR Try.prog 99 #[.agg (wordsL ws).toArray, .int .i64 (x : Int)] w fun v w' => ∃ ws', v = .agg (wordsL ws').toArray ∧ SetOf ws' (l ++ [(x : Int)]) ∧ Ex w w' := by
  have hl := hs.len
  have hw := hs.lt
  refine callsR_of (args := [_, _]) Try.func99 rfl rfl ?_
  repeat' (first | (refine k_boxA rfl (fun g w' hn => ⟨fun _ _ => trivial, ?_⟩)) | (refine k_alloc (fun g2 w2 hn2 => ⟨fun _ _ => trivial, ?_⟩)) | (refine then_normal ?_) | (refine cw_seq ?_) | (refine cw_region rfl ?_) | (refine rr_nil ?_))
  have hb := hn.blk.ext hn2.ex
  refine cw_draw (late := [9]) (plan := [(0, none), (1, none), (2, none), (3, none), (4, none), (5, none), (6, none), (7, none), (8, none), (9, some false)]) (fun w' => Blk w' g 119 (wordsL ws)) mixed (by kernel_rfl) hb ?_
  repeat' (first | (refine k_quoI rfl rfl (by omega) (by omega) (by omega) ?_) | (refine k_indexA1 (j := x / 64) rfl rfl (by omega) ?_) | (refine k_loadN rfl (fun w' hw' => hw'.sl) (by omega) ?_) | (refine k_rem rfl rfl (by omega) (by omega) ?_) | (refine k_pure rfl ?_))
  refine k_shlN (m := 1) (j := x % 64) rfl rfl rfl (by simp only [IntKind.bits]; omega) ?_
  have hp : 1 <<< (x % 64) < 18446744073709551616 := by
    rw [Nat.one_shiftLeft]
    have : 2 ^ (x % 64) < 2 ^ 64 := Nat.pow_lt_pow_right (by omega) (by omega)
    omega
  rw [show (1 <<< (x % 64)) % 2 ^ IntKind.u64.bits = 1 <<< (x % 64) from Nat.mod_eq_of_lt hp]
  refine k_orN rfl rfl rfl (hw _) hp ?_
  refine k_indexA1 (j := x / 64) rfl rfl (by omega) ?_
  refine k_storeN rfl rfl hb.drew (by omega) (fun w3 hc hb3 => ⟨fun h => absurd h (by decide), ?_⟩)
  repeat' (first | (refine then_normal ?_) | (refine cw_seq ?_) | (refine cw_region rfl ?_) | (refine rr_nil ?_))
  refine k_loadA (vs := wordsL (ws.set (x / 64) (ws.getD (x / 64) 0 ||| 1 <<< (x % 64)))) rfl (by simp [hl]) (fun j hj => by have := hb3.cell hj; simpa using this) ?_
  have hb2 : Blk w3 g2 119 (wordsL [0, 0, 0, 0, 0, 0, 0, 0]) := (hn2.blk.drew).chg hc (by have := hn.hi; have := hn2.lo; omega)
  refine k_storeV (n := 8) rfl rfl (by simp [hl]) (all_one (fun _ => rfl) _) hb2 rfl (fun w4 hc4 hb4 => ⟨fun h => absurd h (by decide), ?_⟩)
  repeat' (first | (refine then_normal ?_) | (refine rr_nil ?_) | (refine cw_ret ?_))
  refine ret1 rfl (rc rfl (by simp [hl]) hb4) ?_
  exact ⟨_, rfl, setOf_with hs h1, ((hn.ex.trans hn2.ex).drew.chg hc hn.lo).chg hc4 (by have := hn.ex.size; have := hn2.lo; omega)⟩

theorem has_spec {ws : List Nat} {l : List Int} (hs : SetOf ws l) (x : Int) (h0 : 0 ≤ x) (h1 : x < 512) (w : World) :
    CallsR Try.prog 102 #[.agg (wordsL ws).toArray, .int .i64 x] w fun v w' => v = .bool (decide (x ∈ l)) ∧ Ex w w' := by
  obtain ⟨n, rfl⟩ := Int.eq_ofNat_of_zero_le h0
  exact has_nat hs n (by omega) w
theorem with_spec {ws : List Nat} {l : List Int} (hs : SetOf ws l) (x : Int) (h0 : 0 ≤ x) (h1 : x < 512) (w : World) :
    CallsR Try.prog 99 #[.agg (wordsL ws).toArray, .int .i64 x] w fun v w' => ∃ ws', v = .agg (wordsL ws').toArray ∧ SetOf ws' (l ++ [x]) ∧ Ex w w' := by
  obtain ⟨n, rfl⟩ := Int.eq_ofNat_of_zero_le h0
  exact with_nat hs n (by omega) w
end Go.Proofs.Ythhfjagnmhhapaa

