import Derived.Test.YtpfhfldehaiokaaGreatRows
import Derived.Carry
import Derived.ChangeCalls
import Derived.SizedLaws
import Derived.JoinedOf
import Derived.JoinedAt
import Derived.Deep.Matrix
import Derived.Test.YtpfhfldehaiokaaGreatA03
namespace Go.Proofs.YtpfhfldehaiokaaGreat
open Go.W
instance s1 : Scal Tryz.prog 1 := ⟨by kernel_rfl, by kernel_rfl⟩
instance z1 : Zro Tryz.prog 1 (.nilFunc) := ⟨by kernel_rfl⟩
instance s2 : Scal Tryz.prog 2 := ⟨by kernel_rfl, by kernel_rfl⟩
instance i2 : IntT Tryz.prog 2 .i64 := ⟨by kernel_rfl⟩
instance z2 : Zro Tryz.prog 2 (.int .i64 0) := ⟨by kernel_rfl⟩
instance s3 : Scal Tryz.prog 3 := ⟨by kernel_rfl, by kernel_rfl⟩
instance i3 : IntT Tryz.prog 3 .i64 := ⟨by kernel_rfl⟩
instance z3 : Zro Tryz.prog 3 (.int .i64 0) := ⟨by kernel_rfl⟩
instance s4 : Scal Tryz.prog 4 := ⟨by kernel_rfl, by kernel_rfl⟩
instance o4 : BoolT Tryz.prog 4 := ⟨by kernel_rfl⟩
instance z4 : Zro Tryz.prog 4 (.bool false) := ⟨by kernel_rfl⟩
instance s5 : Scal Tryz.prog 5 := ⟨by kernel_rfl, by kernel_rfl⟩
instance i5 : IntT Tryz.prog 5 .u8 := ⟨by kernel_rfl⟩
instance z5 : Zro Tryz.prog 5 (.int .u8 0) := ⟨by kernel_rfl⟩
instance s6 : Scal Tryz.prog 6 := ⟨by kernel_rfl, by kernel_rfl⟩
instance z6 : Zro Tryz.prog 6 (.int .u8 0) := ⟨by kernel_rfl⟩
instance g7 : Agg Tryz.prog 7 4 := ⟨by kernel_rfl, by kernel_rfl⟩
instance b7 : Str Tryz.prog 7 [(0, 1), (1, 1), (2, 1), (3, 1)] := ⟨by kernel_rfl⟩
instance z7 : Zro Tryz.prog 7 (.agg #[.int .i64 0, .int .i64 0, .bool false, .int .u8 0]) := ⟨by kernel_rfl⟩
instance g8 : Agg Tryz.prog 8 4 := ⟨by kernel_rfl, by kernel_rfl⟩
instance b8 : Str Tryz.prog 8 [(0, 1), (1, 1), (2, 1), (3, 1)] := ⟨by kernel_rfl⟩
instance z8 : Zro Tryz.prog 8 (.agg #[.int .i64 0, .int .i64 0, .bool false, .int .u8 0]) := ⟨by kernel_rfl⟩
instance s12 : Scal Tryz.prog 12 := ⟨by kernel_rfl, by kernel_rfl⟩
instance z12 : Zro Tryz.prog 12 (.int .u64 0) := ⟨by kernel_rfl⟩
instance b13 : Str Tryz.prog 13 [(0, 1), (1, 1)] := ⟨by kernel_rfl⟩
instance s21 : Scal Tryz.prog 21 := ⟨by kernel_rfl, by kernel_rfl⟩
instance s22 : Scal Tryz.prog 22 := ⟨by kernel_rfl, by kernel_rfl⟩
instance l22 : Slc Tryz.prog 22 160 1 1 := ⟨by kernel_rfl, by kernel_rfl⟩
instance z22 : Zro Tryz.prog 22 (.slice none 0 0) := ⟨by kernel_rfl⟩
instance g24 : Agg Tryz.prog 24 4 := ⟨by kernel_rfl, by kernel_rfl⟩
instance f24_0 : Fld Tryz.prog 24 0 0 := ⟨by kernel_rfl⟩
instance f24_1 : Fld Tryz.prog 24 1 1 := ⟨by kernel_rfl⟩
instance f24_2 : Fld Tryz.prog 24 2 2 := ⟨by kernel_rfl⟩
instance s25 : Scal Tryz.prog 25 := ⟨by kernel_rfl, by kernel_rfl⟩
instance l25 : Slc Tryz.prog 25 58 1 24 := ⟨by kernel_rfl, by kernel_rfl⟩
instance z25 : Zro Tryz.prog 25 (.slice none 0 0) := ⟨by kernel_rfl⟩
instance s27 : Scal Tryz.prog 27 := ⟨by kernel_rfl, by kernel_rfl⟩
instance l27 : Slc Tryz.prog 27 50 1 24 := ⟨by kernel_rfl, by kernel_rfl⟩
instance z27 : Zro Tryz.prog 27 (.slice none 0 0) := ⟨by kernel_rfl⟩
instance s28 : Scal Tryz.prog 28 := ⟨by kernel_rfl, by kernel_rfl⟩
instance z28 : Zro Tryz.prog 28 (.int .i64 0) := ⟨by kernel_rfl⟩
instance s32 : Scal Tryz.prog 32 := ⟨by kernel_rfl, by kernel_rfl⟩
instance l32 : Slc Tryz.prog 32 85 1 4 := ⟨by kernel_rfl, by kernel_rfl⟩
instance g34 : Agg Tryz.prog 34 2 := ⟨by kernel_rfl, by kernel_rfl⟩
instance f34_0 : Fld Tryz.prog 34 0 0 := ⟨by kernel_rfl⟩
instance f34_1 : Fld Tryz.prog 34 1 1 := ⟨by kernel_rfl⟩
instance b34 : Str Tryz.prog 34 [(0, 1), (1, 1)] := ⟨by kernel_rfl⟩
instance z34 : Zro Tryz.prog 34 (.agg #[.bool false, .slice none 0 0]) := ⟨by kernel_rfl⟩
instance z35 : Zro Tryz.prog 35 (.nilFunc) := ⟨by kernel_rfl⟩
instance z39 : Zro Tryz.prog 39 (.nilFunc) := ⟨by kernel_rfl⟩
instance s45 : Scal Tryz.prog 45 := ⟨by kernel_rfl, by kernel_rfl⟩
instance z45 : Zro Tryz.prog 45 (.nilFunc) := ⟨by kernel_rfl⟩
instance s50 : Scal Tryz.prog 50 := ⟨by kernel_rfl, by kernel_rfl⟩
instance l50 : Slc Tryz.prog 50 34 2 32 := ⟨by kernel_rfl, by kernel_rfl⟩
instance z50 : Zro Tryz.prog 50 (.slice none 0 0) := ⟨by kernel_rfl⟩
instance z53 : Zro Tryz.prog 53 (.nilFunc) := ⟨by kernel_rfl⟩
instance s55 : Scal Tryz.prog 55 := ⟨by kernel_rfl, by kernel_rfl⟩
instance i55 : IntT Tryz.prog 55 .u64 := ⟨by kernel_rfl⟩
instance z55 : Zro Tryz.prog 55 (.int .u64 0) := ⟨by kernel_rfl⟩
instance s58 : Scal Tryz.prog 58 := ⟨by kernel_rfl, by kernel_rfl⟩
instance l58 : Slc Tryz.prog 58 2 1 8 := ⟨by kernel_rfl, by kernel_rfl⟩
instance z58 : Zro Tryz.prog 58 (.slice none 0 0) := ⟨by kernel_rfl⟩
instance s63 : Scal Tryz.prog 63 := ⟨by kernel_rfl, by kernel_rfl⟩
instance l63 : Slc Tryz.prog 63 3 1 8 := ⟨by kernel_rfl, by kernel_rfl⟩
instance z63 : Zro Tryz.prog 63 (.slice none 0 0) := ⟨by kernel_rfl⟩
instance z66 : Zro Tryz.prog 66 (.nilFunc) := ⟨by kernel_rfl⟩
instance z67 : Zro Tryz.prog 67 (.nilFunc) := ⟨by kernel_rfl⟩
instance z68 : Zro Tryz.prog 68 (.nilFunc) := ⟨by kernel_rfl⟩
instance s69 : Scal Tryz.prog 69 := ⟨by kernel_rfl, by kernel_rfl⟩
instance z70 : Zro Tryz.prog 70 (.nilFunc) := ⟨by kernel_rfl⟩
instance f76_0 : Fld Tryz.prog 76 0 0 := ⟨by kernel_rfl⟩
instance f76_1 : Fld Tryz.prog 76 1 1 := ⟨by kernel_rfl⟩
instance b76 : Str Tryz.prog 76 [(0, 1), (1, 1)] := ⟨by kernel_rfl⟩
instance z76 : Zro Tryz.prog 76 (.agg #[.slice none 0 0, .int .i64 0]) := ⟨by kernel_rfl⟩
instance z77 : Zro Tryz.prog 77 (.nilFunc) := ⟨by kernel_rfl⟩
instance s85 : Scal Tryz.prog 85 := ⟨by kernel_rfl, by kernel_rfl⟩
instance i85 : IntT Tryz.prog 85 .u32 := ⟨by kernel_rfl⟩
instance z85 : Zro Tryz.prog 85 (.int .u32 0) := ⟨by kernel_rfl⟩
instance s89 : Scal Tryz.prog 89 := ⟨by kernel_rfl, by kernel_rfl⟩
instance z89 : Zro Tryz.prog 89 (.pointer none) := ⟨by kernel_rfl⟩
instance z91 : Zro Tryz.prog 91 (.nilFunc) := ⟨by kernel_rfl⟩
instance s92 : Scal Tryz.prog 92 := ⟨by kernel_rfl, by kernel_rfl⟩
instance s93 : Scal Tryz.prog 93 := ⟨by kernel_rfl, by kernel_rfl⟩
instance l93 : Slc Tryz.prog 93 102 2 32 := ⟨by kernel_rfl, by kernel_rfl⟩
instance g95 : Agg Tryz.prog 95 2 := ⟨by kernel_rfl, by kernel_rfl⟩
instance f95_0 : Fld Tryz.prog 95 0 0 := ⟨by kernel_rfl⟩
instance f95_1 : Fld Tryz.prog 95 1 1 := ⟨by kernel_rfl⟩
instance b95 : Str Tryz.prog 95 [(0, 1), (1, 1)] := ⟨by kernel_rfl⟩
instance z95 : Zro Tryz.prog 95 (.agg #[.slice none 0 0, .nilFunc]) := ⟨by kernel_rfl⟩
instance g102 : Agg Tryz.prog 102 2 := ⟨by kernel_rfl, by kernel_rfl⟩
instance f102_0 : Fld Tryz.prog 102 0 0 := ⟨by kernel_rfl⟩
instance f102_1 : Fld Tryz.prog 102 1 1 := ⟨by kernel_rfl⟩
instance b102 : Str Tryz.prog 102 [(0, 1), (1, 1)] := ⟨by kernel_rfl⟩
instance z102 : Zro Tryz.prog 102 (.agg #[.int .i64 0, .slice none 0 0]) := ⟨by kernel_rfl⟩
instance g105 : Agg Tryz.prog 105 2 := ⟨by kernel_rfl, by kernel_rfl⟩
instance f105_0 : Fld Tryz.prog 105 0 0 := ⟨by kernel_rfl⟩
instance f105_1 : Fld Tryz.prog 105 1 1 := ⟨by kernel_rfl⟩
instance b105 : Str Tryz.prog 105 [(0, 1), (1, 1)] := ⟨by kernel_rfl⟩
instance z105 : Zro Tryz.prog 105 (.agg #[.slice none 0 0, .slice none 0 0]) := ⟨by kernel_rfl⟩
instance s107 : Scal Tryz.prog 107 := ⟨by kernel_rfl, by kernel_rfl⟩
instance z107 : Zro Tryz.prog 107 (.nilFunc) := ⟨by kernel_rfl⟩
instance g118 : Agg Tryz.prog 118 4 := ⟨by kernel_rfl, by kernel_rfl⟩
instance f118_0 : Fld Tryz.prog 118 0 0 := ⟨by kernel_rfl⟩
instance f118_1 : Fld Tryz.prog 118 1 2 := ⟨by kernel_rfl⟩
instance b118 : Str Tryz.prog 118 [(0, 2), (2, 2)] := ⟨by kernel_rfl⟩
instance z118 : Zro Tryz.prog 118 (.agg #[.bool false, .slice none 0 0, .bool false, .slice none 0 0]) := ⟨by kernel_rfl⟩
instance s126 : Scal Tryz.prog 126 := ⟨by kernel_rfl, by kernel_rfl⟩
instance l126 : Slc Tryz.prog 126 27 1 24 := ⟨by kernel_rfl, by kernel_rfl⟩
instance f133_0 : Fld Tryz.prog 133 0 0 := ⟨by kernel_rfl⟩
instance f133_1 : Fld Tryz.prog 133 1 1 := ⟨by kernel_rfl⟩
instance f133_2 : Fld Tryz.prog 133 2 2 := ⟨by kernel_rfl⟩
instance f133_3 : Fld Tryz.prog 133 3 3 := ⟨by kernel_rfl⟩
instance b133 : Str Tryz.prog 133 [(0, 1), (1, 1), (2, 1), (3, 1)] := ⟨by kernel_rfl⟩
instance z133 : Zro Tryz.prog 133 (.agg #[.int .i64 0, .slice none 0 0, .slice none 0 0, .slice none 0 0]) := ⟨by kernel_rfl⟩
instance g135 : Agg Tryz.prog 135 2 := ⟨by kernel_rfl, by kernel_rfl⟩
instance f135_0 : Fld Tryz.prog 135 0 0 := ⟨by kernel_rfl⟩
instance f135_1 : Fld Tryz.prog 135 1 1 := ⟨by kernel_rfl⟩
instance b135 : Str Tryz.prog 135 [(0, 1), (1, 1)] := ⟨by kernel_rfl⟩
instance z135 : Zro Tryz.prog 135 (.agg #[.slice none 0 0, .slice none 0 0]) := ⟨by kernel_rfl⟩
instance g144 : Agg Tryz.prog 144 2 := ⟨by kernel_rfl, by kernel_rfl⟩
instance f144_0 : Fld Tryz.prog 144 0 0 := ⟨by kernel_rfl⟩
instance f144_1 : Fld Tryz.prog 144 1 1 := ⟨by kernel_rfl⟩
instance b144 : Str Tryz.prog 144 [(0, 1), (1, 1)] := ⟨by kernel_rfl⟩
instance z144 : Zro Tryz.prog 144 (.agg #[.int .u64 0, .int .u64 0]) := ⟨by kernel_rfl⟩
instance s149 : Scal Tryz.prog 149 := ⟨by kernel_rfl, by kernel_rfl⟩
instance s160 : Scal Tryz.prog 160 := ⟨by kernel_rfl, by kernel_rfl⟩
instance i160 : IntT Tryz.prog 160 .i8 := ⟨by kernel_rfl⟩
instance c3 : Fun Tryz.prog 3 := ⟨by kernel_rfl⟩
instance c4 : Fun Tryz.prog 4 := ⟨by kernel_rfl⟩
instance c5 : Fun Tryz.prog 5 := ⟨by kernel_rfl⟩
instance c6 : Fun Tryz.prog 6 := ⟨by kernel_rfl⟩
instance c7 : Fun Tryz.prog 7 := ⟨by kernel_rfl⟩
instance c8 : Fun Tryz.prog 8 := ⟨by kernel_rfl⟩
instance c9 : Fun Tryz.prog 9 := ⟨by kernel_rfl⟩
instance c10 : Fun Tryz.prog 10 := ⟨by kernel_rfl⟩
instance c11 : Fun Tryz.prog 11 := ⟨by kernel_rfl⟩
instance c12 : Fun Tryz.prog 12 := ⟨by kernel_rfl⟩
instance c13 : Fun Tryz.prog 13 := ⟨by kernel_rfl⟩
instance c14 : Fun Tryz.prog 14 := ⟨by kernel_rfl⟩
instance c15 : Fun Tryz.prog 15 := ⟨by kernel_rfl⟩
instance c16 : Fun Tryz.prog 16 := ⟨by kernel_rfl⟩
instance c17 : Fun Tryz.prog 17 := ⟨by kernel_rfl⟩
instance c18 : Fun Tryz.prog 18 := ⟨by kernel_rfl⟩
instance c19 : Fun Tryz.prog 19 := ⟨by kernel_rfl⟩
instance c20 : Fun Tryz.prog 20 := ⟨by kernel_rfl⟩
instance c21 : Fun Tryz.prog 21 := ⟨by kernel_rfl⟩
instance c22 : Fun Tryz.prog 22 := ⟨by kernel_rfl⟩
instance c23 : Fun Tryz.prog 23 := ⟨by kernel_rfl⟩
instance c24 : Fun Tryz.prog 24 := ⟨by kernel_rfl⟩
instance c25 : Fun Tryz.prog 25 := ⟨by kernel_rfl⟩
instance c26 : Fun Tryz.prog 26 := ⟨by kernel_rfl⟩
instance c27 : Fun Tryz.prog 27 := ⟨by kernel_rfl⟩
instance c28 : Fun Tryz.prog 28 := ⟨by kernel_rfl⟩
instance c29 : Fun Tryz.prog 29 := ⟨by kernel_rfl⟩
instance c30 : Fun Tryz.prog 30 := ⟨by kernel_rfl⟩
instance c31 : Fun Tryz.prog 31 := ⟨by kernel_rfl⟩
instance c32 : Fun Tryz.prog 32 := ⟨by kernel_rfl⟩
instance c33 : Fun Tryz.prog 33 := ⟨by kernel_rfl⟩
instance c34 : Fun Tryz.prog 34 := ⟨by kernel_rfl⟩
instance c35 : Fun Tryz.prog 35 := ⟨by kernel_rfl⟩
instance c36 : Fun Tryz.prog 36 := ⟨by kernel_rfl⟩
instance c37 : Fun Tryz.prog 37 := ⟨by kernel_rfl⟩
instance c38 : Fun Tryz.prog 38 := ⟨by kernel_rfl⟩
instance c39 : Fun Tryz.prog 39 := ⟨by kernel_rfl⟩
instance c40 : Fun Tryz.prog 40 := ⟨by kernel_rfl⟩
instance c41 : Fun Tryz.prog 41 := ⟨by kernel_rfl⟩
instance c42 : Fun Tryz.prog 42 := ⟨by kernel_rfl⟩
instance c43 : Fun Tryz.prog 43 := ⟨by kernel_rfl⟩
instance c44 : Fun Tryz.prog 44 := ⟨by kernel_rfl⟩
instance c45 : Fun Tryz.prog 45 := ⟨by kernel_rfl⟩
instance c46 : Fun Tryz.prog 46 := ⟨by kernel_rfl⟩
instance c47 : Fun Tryz.prog 47 := ⟨by kernel_rfl⟩
instance c48 : Fun Tryz.prog 48 := ⟨by kernel_rfl⟩
instance c49 : Fun Tryz.prog 49 := ⟨by kernel_rfl⟩
instance c50 : Fun Tryz.prog 50 := ⟨by kernel_rfl⟩
instance c51 : Fun Tryz.prog 51 := ⟨by kernel_rfl⟩
instance c52 : Fun Tryz.prog 52 := ⟨by kernel_rfl⟩
instance c53 : Fun Tryz.prog 53 := ⟨by kernel_rfl⟩
instance c54 : Fun Tryz.prog 54 := ⟨by kernel_rfl⟩
instance c55 : Fun Tryz.prog 55 := ⟨by kernel_rfl⟩
instance c56 : Fun Tryz.prog 56 := ⟨by kernel_rfl⟩
instance c57 : Fun Tryz.prog 57 := ⟨by kernel_rfl⟩
instance c58 : Fun Tryz.prog 58 := ⟨by kernel_rfl⟩
instance c59 : Fun Tryz.prog 59 := ⟨by kernel_rfl⟩
instance c60 : Fun Tryz.prog 60 := ⟨by kernel_rfl⟩
instance c61 : Fun Tryz.prog 61 := ⟨by kernel_rfl⟩
instance c62 : Fun Tryz.prog 62 := ⟨by kernel_rfl⟩
instance c63 : Fun Tryz.prog 63 := ⟨by kernel_rfl⟩
instance c64 : Fun Tryz.prog 64 := ⟨by kernel_rfl⟩
instance c65 : Fun Tryz.prog 65 := ⟨by kernel_rfl⟩
instance c66 : Fun Tryz.prog 66 := ⟨by kernel_rfl⟩
instance c67 : Fun Tryz.prog 67 := ⟨by kernel_rfl⟩
instance c68 : Fun Tryz.prog 68 := ⟨by kernel_rfl⟩
instance c69 : Fun Tryz.prog 69 := ⟨by kernel_rfl⟩
instance c70 : Fun Tryz.prog 70 := ⟨by kernel_rfl⟩
instance c71 : Fun Tryz.prog 71 := ⟨by kernel_rfl⟩
instance c72 : Fun Tryz.prog 72 := ⟨by kernel_rfl⟩
instance c73 : Fun Tryz.prog 73 := ⟨by kernel_rfl⟩
instance c74 : Fun Tryz.prog 74 := ⟨by kernel_rfl⟩
instance c75 : Fun Tryz.prog 75 := ⟨by kernel_rfl⟩
instance c76 : Fun Tryz.prog 76 := ⟨by kernel_rfl⟩
instance c77 : Fun Tryz.prog 77 := ⟨by kernel_rfl⟩
instance c78 : Fun Tryz.prog 78 := ⟨by kernel_rfl⟩
instance c79 : Fun Tryz.prog 79 := ⟨by kernel_rfl⟩
instance c80 : Fun Tryz.prog 80 := ⟨by kernel_rfl⟩
instance c81 : Fun Tryz.prog 81 := ⟨by kernel_rfl⟩
instance c82 : Fun Tryz.prog 82 := ⟨by kernel_rfl⟩
instance c83 : Fun Tryz.prog 83 := ⟨by kernel_rfl⟩
instance c84 : Fun Tryz.prog 84 := ⟨by kernel_rfl⟩
instance c85 : Fun Tryz.prog 85 := ⟨by kernel_rfl⟩
instance c86 : Fun Tryz.prog 86 := ⟨by kernel_rfl⟩
instance c87 : Fun Tryz.prog 87 := ⟨by kernel_rfl⟩
instance c88 : Fun Tryz.prog 88 := ⟨by kernel_rfl⟩
instance c89 : Fun Tryz.prog 89 := ⟨by kernel_rfl⟩
instance c90 : Fun Tryz.prog 90 := ⟨by kernel_rfl⟩
instance c91 : Fun Tryz.prog 91 := ⟨by kernel_rfl⟩
instance c92 : Fun Tryz.prog 92 := ⟨by kernel_rfl⟩
instance c93 : Fun Tryz.prog 93 := ⟨by kernel_rfl⟩
instance c94 : Fun Tryz.prog 94 := ⟨by kernel_rfl⟩
instance c95 : Fun Tryz.prog 95 := ⟨by kernel_rfl⟩
instance c96 : Fun Tryz.prog 96 := ⟨by kernel_rfl⟩
instance c97 : Fun Tryz.prog 97 := ⟨by kernel_rfl⟩
instance c98 : Fun Tryz.prog 98 := ⟨by kernel_rfl⟩
instance c99 : Fun Tryz.prog 99 := ⟨by kernel_rfl⟩
instance c100 : Fun Tryz.prog 100 := ⟨by kernel_rfl⟩
instance c101 : Fun Tryz.prog 101 := ⟨by kernel_rfl⟩
instance c102 : Fun Tryz.prog 102 := ⟨by kernel_rfl⟩
instance c103 : Fun Tryz.prog 103 := ⟨by kernel_rfl⟩
instance c104 : Fun Tryz.prog 104 := ⟨by kernel_rfl⟩
instance c105 : Fun Tryz.prog 105 := ⟨by kernel_rfl⟩
instance c106 : Fun Tryz.prog 106 := ⟨by kernel_rfl⟩
instance c107 : Fun Tryz.prog 107 := ⟨by kernel_rfl⟩
instance c108 : Fun Tryz.prog 108 := ⟨by kernel_rfl⟩
instance c109 : Fun Tryz.prog 109 := ⟨by kernel_rfl⟩
instance c110 : Fun Tryz.prog 110 := ⟨by kernel_rfl⟩
instance c111 : Fun Tryz.prog 111 := ⟨by kernel_rfl⟩
instance c112 : Fun Tryz.prog 112 := ⟨by kernel_rfl⟩
instance c113 : Fun Tryz.prog 113 := ⟨by kernel_rfl⟩
instance c114 : Fun Tryz.prog 114 := ⟨by kernel_rfl⟩
instance c115 : Fun Tryz.prog 115 := ⟨by kernel_rfl⟩
instance c116 : Fun Tryz.prog 116 := ⟨by kernel_rfl⟩
instance c117 : Fun Tryz.prog 117 := ⟨by kernel_rfl⟩
instance c118 : Fun Tryz.prog 118 := ⟨by kernel_rfl⟩
instance c119 : Fun Tryz.prog 119 := ⟨by kernel_rfl⟩
instance c120 : Fun Tryz.prog 120 := ⟨by kernel_rfl⟩
instance c121 : Fun Tryz.prog 121 := ⟨by kernel_rfl⟩
instance c122 : Fun Tryz.prog 122 := ⟨by kernel_rfl⟩
instance c123 : Fun Tryz.prog 123 := ⟨by kernel_rfl⟩
instance c124 : Fun Tryz.prog 124 := ⟨by kernel_rfl⟩
instance c125 : Fun Tryz.prog 125 := ⟨by kernel_rfl⟩
instance c126 : Fun Tryz.prog 126 := ⟨by kernel_rfl⟩
instance c127 : Fun Tryz.prog 127 := ⟨by kernel_rfl⟩
instance c128 : Fun Tryz.prog 128 := ⟨by kernel_rfl⟩
instance c129 : Fun Tryz.prog 129 := ⟨by kernel_rfl⟩
instance c130 : Fun Tryz.prog 130 := ⟨by kernel_rfl⟩
instance c131 : Fun Tryz.prog 131 := ⟨by kernel_rfl⟩
instance c132 : Fun Tryz.prog 132 := ⟨by kernel_rfl⟩
instance c133 : Fun Tryz.prog 133 := ⟨by kernel_rfl⟩
instance c134 : Fun Tryz.prog 134 := ⟨by kernel_rfl⟩
instance c139 : Fun Tryz.prog 139 := ⟨by kernel_rfl⟩
instance c140 : Fun Tryz.prog 140 := ⟨by kernel_rfl⟩
instance c141 : Fun Tryz.prog 141 := ⟨by kernel_rfl⟩
instance c142 : Fun Tryz.prog 142 := ⟨by kernel_rfl⟩
instance c143 : Fun Tryz.prog 143 := ⟨by kernel_rfl⟩
instance c144 : Fun Tryz.prog 144 := ⟨by kernel_rfl⟩
instance c146 : Fun Tryz.prog 146 := ⟨by kernel_rfl⟩
instance c147 : Fun Tryz.prog 147 := ⟨by kernel_rfl⟩
instance c148 : Fun Tryz.prog 148 := ⟨by kernel_rfl⟩
instance c157 : Fun Tryz.prog 157 := ⟨by kernel_rfl⟩
instance c158 : Fun Tryz.prog 158 := ⟨by kernel_rfl⟩
instance c160 : Fun Tryz.prog 160 := ⟨by kernel_rfl⟩
instance c161 : Fun Tryz.prog 161 := ⟨by kernel_rfl⟩
instance c162 : Fun Tryz.prog 162 := ⟨by kernel_rfl⟩
instance c163 : Fun Tryz.prog 163 := ⟨by kernel_rfl⟩
instance c169 : Fun Tryz.prog 169 := ⟨by kernel_rfl⟩
instance c170 : Fun Tryz.prog 170 := ⟨by kernel_rfl⟩
instance c171 : Fun Tryz.prog 171 := ⟨by kernel_rfl⟩
instance c172 : Fun Tryz.prog 172 := ⟨by kernel_rfl⟩
instance c173 : Fun Tryz.prog 173 := ⟨by kernel_rfl⟩
instance c174 : Fun Tryz.prog 174 := ⟨by kernel_rfl⟩
theorem bD : Tryz.prog.follows .mixedOrders = true := by kernel_rfl
end Go.Proofs.YtpfhfldehaiokaaGreat
namespace Go.W
structure Joined {ι : Type} (M : List Nat) (vals : ι → List (Nat × Value)) (J : ι → World → Prop) (ρ0 : Env) (ρ : Env) (w : World) : Prop where
 next : ∃ s, J s w ∧ Has ρ (vals s)
 agree : Agree M ρ ρ0
theorem dy {ι : Type} {P : Program} {n : Nat} {Q : Exit → Env → World → Prop} {next : Env → World → Prop} {ρ : Env} {w : World} {x : Code} (M : List Nat) (vals : ι → List (Nat × Value)) (J : ι → World → Prop)
  (h1 : CW P n x (thenE (Joined M vals J ρ) Q) ρ w) (h2 : ∀ s ξ w', J s w' → next (over (vals s) (mask M ρ ξ)) w') : CW P n x (thenE next Q) ρ w := by
 refine h1.mono fun e ρ' w' q => ?_
 cases e <;> unfold thenE at q ⊢
 case normal =>
  obtain ⟨⟨s, hJ, hH⟩, hA⟩ := q
  have := h2 s ρ' w' hJ
  rwa [lC hA, jA hH] at this
 all_goals exact q
section
variable {P : Program} {S : World → Prop} {ops : List Oper} {K : Env → World → Prop} {rest : List (Oper × Option Bool)} {ρ : Env} {w : World} {b : Option Bool} {kf : Bool} {d : Nat} {dst : Option Nat} {T T' : TypeId} {pos : String} {af : Array Edge}
theorem np {x lo hi : Operand} {g o len cap E s y l h : Nat} {k k' : IntKind} [hT : Slc P T' E s y] (hx : ev ρ x = .slice (some ⟨g, o, none⟩) len cap) (hlo : ev ρ lo = .int k (l : Int)) (hhi : ev ρ hi = .int k' (h : Int))
  (h1 : l ≤ h) (h2 : h ≤ cap) (h3 : l < cap) (hh : RR P S ops K rest (upd ρ d (.slice (some ⟨g, o + l * s, none⟩) (h - l) (cap - l))) w) :
  RR P S ops K ((⟨some d, .slice T' x (some lo) (some hi) none, T, pos, af, none⟩, b) :: rest) ρ w := by
 refine ci rfl (fun w' => ?_) hh
 obtain ⟨i0, hi0, hz⟩ := Option.map_eq_some_iff.1 hT.sz
 simp only [Prod.mk.injEq] at hz
 have e : ∀ n, (⟨g, o, none⟩ : Addr).add n = ⟨g, o + n, none⟩ := fun n => by unfold Addr.add; split <;> simp_all
 have h3' : ¬ cap = l := by omega
 simp [execOp, Instr.sliceAt, Instr.slice, Instr.sliceBounds, Instr.sliceBound, hx, hlo, hhi, asIntOf, underlying, hT.un, sizeOf, typeInfo, hi0, hz.1, h1, h2, h3', e]
theorem ns {x y : Operand} {T1 : TypeId} {g o j Tb : Nat} {k : IntKind} {u : Nat} {xs : List Nat} [hT : Scal P T1] (hx : ev ρ x = .pointer (some (elt (some ⟨g, o, none⟩) j))) (hy : ev ρ y = .int k (u : Int))
  (hb : Blk w g Tb (xs.map fun (n : Nat) => Value.int k n)) (ho : o + j < xs.length) (h : ∀ w', Chg g w w' → Blk w' g Tb ((xs.set (o + j) u).map fun (n : Nat) => Value.int k n) → (kf = true → S w → S w') ∧ RR P S ops K rest ρ w') :
  RR P S ops K ((⟨none, .store T1 x y, T, pos, af, none⟩, some kf) :: rest) ρ w :=
 oa (o := o + j) (by rw [hx]; rfl) hy rfl hb (by simpa using ho) (by rw [List.map_set] at h; exact h)
theorem pt {x : Operand} {T1 : TypeId} {g o j Tb : Nat} {k : IntKind} {xs : List Nat} [Scal P T1] (hx : ev ρ x = .pointer (some (elt (some ⟨g, o, none⟩) j))) (hs : Rd b S w fun w' => Blk w' g Tb (xs.map fun (n : Nat) => Value.int k n))
  (hj : o + j < xs.length) (h : RR P S ops K rest (upd ρ d (.int k ((xs.getD (o + j) 0 : Nat) : Int))) w) : RR P S ops K ((⟨some d, .load T1 x, T, pos, af, none⟩, b) :: rest) ρ w :=
 ir hx (hs.imp fun w' hs => by
  have := hs.cell (j := o + j) (by simpa using hj)
  simp only [elt]
  rw [this]
  simp [List.getD_eq_getElem?_getD, hj]) h
theorem fc {x y : Operand} {m m' : Nat} {T'' : TypeId} (hx : ev ρ x = .int .u64 (m : Int)) (hy : ev ρ y = .int .u64 (m' : Int)) (h2 : m + m' < 18446744073709551616)
  (h : RR P S ops K rest (upd ρ d (.int .u64 ((m + m' : Nat) : Int))) w) : RR P S ops K ((⟨some d, .binOp .add T' x y T'', T, pos, af, none⟩, b) :: rest) ρ w :=
 wZ hx hy (by omega) (by omega) (by rw [← Int.natCast_add]; exact h)
theorem gz {x y : Operand} {m m' : Nat} {T'' : TypeId} (hx : ev ρ x = .int .u64 (m : Int)) (hy : ev ρ y = .int .u64 (m' : Int)) (h2 : m * m' < 18446744073709551616)
  (h : RR P S ops K rest (upd ρ d (.int .u64 ((m * m' : Nat) : Int))) w) : RR P S ops K ((⟨some d, .binOp .mul T' x y T'', T, pos, af, none⟩, b) :: rest) ρ w :=
 rC hx hy (by rw [← Int.natCast_mul, cV (by omega) (by omega)]; exact h)
theorem iw {x : Operand} {m : Nat} {T1 T2 : TypeId} [h1 : IntT P T1 .u32] [h2 : IntT P T2 .u64] (hx : ev ρ x = .int .u32 (m : Int)) (hm : m < 4294967296) (h : RR P S ops K rest (upd ρ d (.int .u64 (m : Int))) w) :
  RR P S ops K ((⟨some d, .convert T1 T2 x, T, pos, af, none⟩, b) :: rest) ρ w :=
 cF hx (cV (by omega) (by omega)) h
theorem dR {x : Operand} {m : Nat} {T1 T2 : TypeId} [h1 : IntT P T1 .u64] [h2 : IntT P T2 .u32] (hx : ev ρ x = .int .u64 (m : Int)) (h : RR P S ops K rest (upd ρ d (.int .u32 ((m % 4294967296 : Nat) : Int))) w) :
  RR P S ops K ((⟨some d, .convert T1 T2 x, T, pos, af, none⟩, b) :: rest) ρ w :=
 im hx (by
  rw [show IntKind.u32.wrap ((m : Nat) : Int) = ((m % 4294967296 : Nat) : Int) from (cY rfl).trans (by simp [IntKind.bits])]
  exact h)
theorem ez {x y : Operand} {k' : IntKind} {m : Nat} {T'' : TypeId} (hx : ev ρ x = .int .u64 (m : Int)) (hy : ev ρ y = .int k' 32)
  (h : RR P S ops K rest (upd ρ d (.int .u64 ((m / 4294967296 : Nat) : Int))) w) : RR P S ops K ((⟨some d, .binOp .shr T' x y T'', T, pos, af, none⟩, b) :: rest) ρ w :=
 dP (j := 32) hx hy (.inl rfl) (by rw [Nat.shiftRight_eq_div_pow]; exact h)
theorem dM {x y : Operand} {m m' : Nat} {T'' : TypeId} (hx : ev ρ x = .int .i64 (m : Int)) (hy : ev ρ y = .int .i64 (m' : Int)) (h2 : m + m' ≤ 9223372036854775807)
  (h : RR P S ops K rest (upd ρ d (.int .i64 ((m + m' : Nat) : Int))) w) : RR P S ops K ((⟨some d, .binOp .add T' x y T'', T, pos, af, none⟩, b) :: rest) ρ w :=
 aV hx hy (by omega) (by omega) (by rw [← Int.natCast_add]; exact h)
end
section
variable {P : Program} {S : World → Prop} {ops : List Oper} {K : Env → World → Prop} {rest : List (Oper × Option Bool)} {ρ : Env} {w : World} {b : Option Bool} {kf : Bool} {d : Nat} {dst : Option Nat} {T T' : TypeId} {pos : String} {af : Array Edge}
theorem nt {T1 E s y n cap c : Nat} {x1 x2 : Operand} {a ad : Option Addr} [hT : Slc P T1 E s y] (h1 : ev ρ x1 = .slice a n cap) (h2 : ev ρ x2 = .slice ad 0 c) (hn : n ≤ cap)
  (h : RR P S ops K rest (upd ρ d (.slice a n cap)) w) :
  RR P S ops K ((⟨some d, .call ⟨.builtin .append, #[x1, x2], #[T1, T1]⟩, T, pos, af, none⟩, some kf) :: rest) ρ w := by
 refine dq rfl ?_
 unfold OpW
 obtain ⟨i0, hi0, hzz⟩ := Option.map_eq_some_iff.1 hT.sz
 have : (execOp (ev ρ) ⟨some d, .call ⟨.builtin .append, #[x1, x2], #[T1, T1]⟩, T, pos, af, none⟩).run P w = .ok (.value (.slice a n cap)) w := by
  simp [execOp, resolve, invoke, builtin, h1, h2, Builtin.append_, run_underlying hT.un, sizeOf, typeInfo, hi0, Builtin.lenOf, Builtin.firstCells, loadCells, loadCellsFrom]
  cases ad <;> cases a <;> simp [hn, storeCells]
 rw [this]
 exact ⟨fun _ h => h, h⟩
theorem xd {T1 E y m c : Nat} {x1 x2 : Operand} {ad : Option Addr} {news : List Value} {z : Value} [hT : Slc P T1 E 1 y] [hz : Zro P E z] (h1 : ev ρ x1 = .slice none 0 0) (h2 : ev ρ x2 = .slice ad m c)
  (hzs : (Nat.beq z.cells.size 1) = true) (hnews : Sl w ad news) (hl : news.length = m) (ho : news.all Value.oneCell' = true) (hm : m ≤ 9223372036854775807) (hb : m * y ≤ 140737488355328)
  (h : ∀ a' cap' w', Own w' w.heap.size E 1 a' m cap' news → Ex w w' → (kf = true → S w → S w') ∧ RR P S ops K rest (upd ρ d (.slice a' m cap')) w') :
  RR P S ops K ((⟨some d, .call ⟨.builtin .append, #[x1, x2], #[T1, T1]⟩, T, pos, af, none⟩, some kf) :: rest) ρ w := by
 by_cases h0 : m = 0
 ·subst h0
  have hn : news = [] := List.eq_nil_of_length_eq_zero hl
  subst hn
  exact nt h1 h2 (Nat.le_refl _) (h none 0 w (Own.nil _ _ _ _) (Ex.refl _)).2
 ·refine dZ (z := z) (s := 1) (c := c) (hzs := Nat.eq_of_beq_eq_true hzs) (hs := rfl) (news := news) (vs := []) (lo := w.heap.size) (h1 := h1) (h2 := h2) (hown := Own.nil _ _ _ _) (hnews := hnews) (hp := hnews.plain (by omega)) (hl := by simp [hl]) (ho := ho) (hm := by omega) (hb := by simpa using hb) (hlo := Nat.le_refl _) ?_
  intro a' cap' w' ho' hg hA
  rw [Nat.zero_add] at ho' ⊢
  exact h a' cap' w' (by simpa using ho') (iu hg (Ex.refl _) (by simp))
end
section
variable {P : Program} {S : World → Prop} {ops : List Oper} {K : Env → World → Prop} {rest : List (Oper × Option Bool)} {ρ : Env} {w : World} {b : Option Bool} {kf : Bool} {d : Nat} {dst : Option Nat} {T T' : TypeId} {pos : String} {af : Array Edge}
theorem xe {x y : Operand} {k : IntKind} {m : Int} {T'' : TypeId} (hx : ev ρ x = .int k m) (hy : ev ρ y = .int k m) (h : RR P S ops K rest (upd ρ d (.bool false)) w) : RR P S ops K ((⟨some d, .binOp .neq T' x y T'', T, pos, af, none⟩, b) :: rest) ρ w :=
 pm hx hy (by rw [decide_eq_false (by simp)]; exact h)
end
theorem rE {n : Int} (h : (Lit.int .u8 n).wf = true) : 0 ≤ n ∧ n ≤ 255 := by simpa [Lit.wf, IntKind.min, IntKind.max, IntKind.signed, IntKind.bits] using h
theorem yU {n : Int} (h : (Lit.int .i8 n).wf = true) : -128 ≤ n ∧ n ≤ 127 := by simpa [Lit.wf, IntKind.min, IntKind.max, IntKind.signed, IntKind.bits] using h
open Go.ChangeShapes Go.WideShapes Go.ChangeAt Go.RowKit
section
variable {H : Type} {enc : TypeId × Value → H} {P : Program} {W W' : World}
theorem je (hl : laidOutB P = true) (hb : Below W.heap.size W W') {sp : Nat → Bool} : ∀ {ts : List TypeId} {vs : List Value} {ds : List (DataW H)} {ps : List MemPlace},
  ts.all (fun t => P.readableRec t && decide (t < P.types.size)) = true → DataW.TrodAll enc P W 0 (fun _ => true) true ts vs ds ps → (∀ x ∈ ps, x.block < W.heap.size) → (∀ x ∈ ps, sp x.block = true) →
  DataW.TrodAll enc P W' 0 sp true ts vs ds ps
 | [], [], [], _, _, h, _, _ => h
 | t :: ts, v :: vs, d :: ds, _, ht, ⟨p, q, h1, h2, e⟩, hlt, hs => by
  simp only [List.all_cons, Bool.and_eq_true, decide_eq_true_eq] at ht
  exact ⟨p, q, WideElems.Trod_stays hl ht.1.1 ht.1.2 h1 (fun x hx => hb.same (hlt x (by rw [e]; exact List.mem_append_left _ hx))) (fun x hx => hs x (by rw [e]; exact List.mem_append_left _ hx)),
   je hl hb ht.2 h2 (fun x hx => hlt x (by rw [e]; exact List.mem_append_right _ hx)) (fun x hx => hs x (by rw [e]; exact List.mem_append_right _ hx)), e⟩
theorem tK {f : Func} {s : ChangeSpec} {apart fresh handsOn again : Bool} {args : Array Value} {ds gs : List (DataW H)} {before : List MemPlace} {tb : TypeId}
  (hl : laidOutB P = true) (hrd : f.params.toList.all (fun t => P.readableRec t && decide (t < P.types.size)) = true) (hrt : f.resultTypes = #[tb]) (htb : P.underlying tb = some .bool) (hvars : s.vars = [])
  (hspec : s.fn H (ds ++ gs) = { results := [.lit (.bool true)], args := ds })
  (hW : DataW.Whole enc P f.params.toList s.vars apart W args.toList ds gs before) (hb : Below W.heap.size W W') :
  s.post enc P f apart fresh handsOn again W args (.bool true) W' := by
 have hlt : ∀ p ∈ before, p.block < W.heap.size := fun p hp => hW.lt p hp
 have hW0 := hW
 obtain ⟨pa, pv, hA, hV, hps, hz, hn⟩ := hW
 rw [hvars] at hV
 obtain ⟨rfl, rfl⟩ := trodVars_none hV
 have hps' : before = pa ++ [] := hps
 have hres : ∀ (b : Nat) (sp : Nat → Bool) (hd : Bool), DataW.TrodAll enc P W' b sp hd f.resultTypes.toList ((Value.bool true).resultList f.resultTypes.size) (s.fn H (ds ++ [])).results [] := fun b sp hd => by
  rw [hspec, hrt]; exact trodAll_mk1 (shut_bool htb _)
 have hargs : ∀ sp : Nat → Bool, (∀ p ∈ before, sp p.block = true) → DataW.TrodAll enc P W' 0 sp true f.params.toList args.toList (s.fn H (ds ++ [])).args pa := fun sp hsp => by
  rw [hspec]; exact je hl hb hrd hA (fun x hx => hlt x (by rw [hps']; simpa using hx)) (fun x hx => hsp x (by rw [hps']; simpa using hx))
 have hvs : ∀ sp : Nat → Bool, (∀ p ∈ before, sp p.block = true) → DataW.TrodVars enc P W' sp s.vars (s.fn H (ds ++ [])).vars [] := fun sp _ => by rw [hspec, hvars]; rfl
 have hok : ∀ (j : Nat) (t : TypeId) (r : Value), f.resultTypes[j]? = some t → ((Value.bool true).resultList f.resultTypes.size)[j]? = some r → Value.okWide P W' .any 0 t r := ok_one hrt rfl (okWide_bool_mk htb _)
 have hold : ∀ p ∈ before, (fun b => decide (b < W.heap.size)) p.block = true := fun p hp => by simpa using hlt p hp
 refine ⟨ds, [], before, [], pa, [], hW0, hres _ _ _, hargs _ hold, hvs _ hold, World.keptBut_mono (fun p hp => ⟨hp, ?_⟩) (hb.frame (· ∈ before)), fun _ => ?_⟩
 ·rw [hps', List.mem_append] at hp
  exact Or.inr hp
 ·refine ⟨hok, _, _, ([] ++ pa) ++ [], ⟨[] ++ pa, [], trodAll_append (hargs _ (fun _ _ => rfl)) (hres _ _ _), hvs _ (fun _ _ => rfl), rfl, ?_, ?_⟩, ?_⟩
  ·intro b off hp
   have hin : MemPlace.cell b off ∈ before := by rw [hps']; simpa using hp
   rw [hb.frozen (hlt _ hin)]
   exact hz b off hin
  ·intro ha
   have := hn ha
   rw [hps'] at this
   simpa using this
  ·intro p hp _
   rw [hps']
   simpa using hp
end
end Go.W
namespace Go.Proofs.YtpfhfldehaiokaaGreat
theorem Tryz.own : ownKnob Tryz.prog.godebug = none := by kernel_rfl
theorem Tryz.laidOut : laidOutB Tryz.prog = true := by kernel_rfl
end Go.Proofs.YtpfhfldehaiokaaGreat
namespace Go.LM
def natOf : List Nat → Nat
 | [] => 0
 | d :: l => d + 4294967296 * natOf l
def Lim (l : List Nat) : Prop := ∀ d ∈ l, d < 4294967296
theorem Lim.getD {l : List Nat} (h : Lim l) (k : Nat) : l.getD k 0 < 4294967296 := by
 by_cases hk : k < l.length
 ·rw [List.getD_eq_getElem?_getD, List.getElem?_eq_getElem hk]; exact h _ (List.getElem_mem hk)
 ·rw [List.getD_eq_getElem?_getD, List.getElem?_eq_none (by omega)]; decide
theorem Lim.take {l : List Nat} (h : Lim l) (k : Nat) : Lim (l.take k) := fun d hd => h d (List.mem_of_mem_take hd)
theorem db : ∀ (l m : List Nat), natOf (l ++ m) = natOf l + 4294967296 ^ l.length * natOf m
 | [], m => by simp [natOf]
 | d :: l, m => by
  simp only [List.cons_append, natOf, db l m, List.length_cons, Nat.pow_succ]
  rw [Nat.mul_add, ← Nat.mul_assoc, Nat.mul_comm 4294967296 (4294967296 ^ l.length), Nat.add_assoc]
theorem bQ : ∀ {l : List Nat}, Lim l → natOf l < 4294967296 ^ l.length
 | [], _ => by simp [natOf]
 | d :: l, h => by
  have h1 := h d (by simp)
  have h2 := bQ (l := l) (fun x hx => h x (by simp [hx]))
  simp only [natOf, List.length_cons, Nat.pow_succ]
  omega
theorem dG (l : List Nat) (d : Nat) : natOf (l ++ [d]) = natOf l + 4294967296 ^ l.length * d := by rw [db]; simp [natOf]
theorem dl : ∀ n : Nat, natOf (List.replicate n 0) = 0
 | 0 => rfl
 | n + 1 => by simp [List.replicate_succ, natOf, dl n]
def trimL : List Nat → List Nat
 | [] => []
 | d :: l => if trimL l = [] ∧ d = 0 then [] else d :: trimL l
theorem bh : ∀ l : List Nat, natOf (trimL l) = natOf l
 | [] => rfl
 | d :: l => by
  have ih := bh l
  rw [trimL]
  split
  ·rename_i h; rw [h.1] at ih; simp only [natOf] at ih ⊢; omega
  ·simp only [natOf, ih]
theorem cX : ∀ l : List Nat, (trimL l).length ≤ l.length
 | [] => by simp [trimL]
 | d :: l => by
  have := cX l
  rw [trimL]
  split <;> simp <;> omega
theorem jm : ∀ l : List Nat, trimL l = l.take (trimL l).length
 | [] => rfl
 | d :: l => by
  have ih := jm l
  rw [trimL]
  split
  ·rfl
  ·simp only [List.length_cons, List.take_succ_cons, ← ih]
theorem d6 : ∀ l : List Nat, trimL (l ++ [0]) = trimL l
 | [] => rfl
 | d :: l => by simp only [List.cons_append, trimL, d6 l]
theorem jn {d : Nat} (h : d ≠ 0) : ∀ l : List Nat, trimL (l ++ [d]) = l ++ [d]
 | [] => by simp [trimL, h]
 | e :: l => by
  simp only [List.cons_append, trimL, jn h l]
  rw [if_neg (by simp)]
def Canon (l : List Nat) : Prop := trimL l = l
theorem bA : ∀ l : List Nat, Canon (trimL l)
 | [] => rfl
 | d :: l => by
  have ih := bA l
  unfold Canon at *
  rw [trimL]
  split
  ·rfl
  ·rename_i h
   rw [trimL, ih, if_neg h]
theorem Lim.trim {l : List Nat} (h : Lim l) : Lim (trimL l) := by rw [jm]; exact h.take _
theorem cI {l : List Nat} : trimL l = [] ↔ natOf l = 0 := by
 constructor
 ·intro h; rw [← bh, h]; rfl
 ·induction l with
  | nil => intro _; rfl
  | cons d l ih =>
   intro h
   simp only [natOf] at h
   rw [trimL, if_pos ⟨ih (by omega), by omega⟩]
theorem jE {l : List Nat} (h : Canon l) (hne : l ≠ []) : 4294967296 ^ (l.length - 1) ≤ natOf l := by
 obtain ⟨m, d, rfl⟩ : ∃ m d, l = m ++ [d] := ⟨l.dropLast, l.getLast hne, (List.dropLast_concat_getLast hne).symm⟩
 have hd : d ≠ 0 := by
  rintro rfl
  unfold Canon at h
  rw [d6] at h
  have := cX m
  rw [h] at this
  simp at this
  omega
 rw [dG]
 simp only [List.length_append, List.length_singleton, Nat.add_sub_cancel]
 have : 4294967296 ^ m.length * 1 ≤ 4294967296 ^ m.length * d := Nat.mul_le_mul_left _ (by omega)
 omega
def digs (n : Nat) : List Nat := trimL [n % 4294967296, n / 4294967296]
theorem dS {n : Nat} : natOf (digs n) = n := by rw [digs, bh]; simp [natOf]; omega
theorem tM (n : Nat) : (digs n).length ≤ 2 := cX _
theorem dH (n : Nat) : Canon (digs n) := bA _
end Go.LM
namespace Go.Proofs.YtpfhfldehaiokaaGreat
open Go.W Go.LM
abbrev limbsL (ls : List Nat) : List Value := ls.map fun (n : Nat) => Value.int .u32 n
structure Limbs (w : World) (a : Option Addr) (c : Nat) (ls : List Nat) : Prop where
 sl : Sl w a (limbsL ls)
 cap : ls.length ≤ c
 lim : Lim ls
 len : ls.length ≤ 17592186044416
theorem Limbs.ext {w w' : World} {a : Option Addr} {c : Nat} {ls : List Nat} (h : Limbs w a c ls) (e : Ex w w') : Limbs w' a c ls := ⟨h.sl.ext e, h.cap, h.lim, h.len⟩
theorem Limbs.chg {w w' : World} {a : Option Addr} {c g : Nat} {ls : List Nat} (h : Limbs w a c ls) (e : Chg g w w') (hne : ∀ ad, a = some ad → ad.block ≠ g) : Limbs w' a c ls := ⟨h.sl.chg e hne, h.cap, h.lim, h.len⟩
theorem Limbs.drew {w : World} {a : Option Addr} {c : Nat} {ls : List Nat} (h : Limbs w a c ls) : Limbs w.drew a c ls := ⟨h.sl.drew, h.cap, h.lim, h.len⟩
theorem Limbs.take {w : World} {a : Option Addr} {c : Nat} {ls : List Nat} (h : Limbs w a c ls) (k : Nat) : Limbs w a c (ls.take k) :=
 ⟨by have := h.sl.take k; rwa [← List.map_take] at this, by have := h.cap; simp; omega, h.lim.take k, by have := h.len; simp; omega⟩
theorem Limbs.trim {w : World} {a : Option Addr} {c : Nat} {ls : List Nat} (h : Limbs w a c ls) : Limbs w a c (trimL ls) := by rw [jm]; exact h.take _
theorem Limbs.nil (w : World) (a : Option Addr) (c : Nat) : Limbs w a c [] := ⟨Sl.nil _ _, by simp, by intro d hd; simp at hd, by simp⟩
theorem eo {ls : List Nat} {k : Nat} (hk : k ≤ ls.length) (h0 : 0 < k) : ls.take k = ls.take (k - 1) ++ [ls.getD (k - 1) 0] := by
 obtain ⟨j, rfl⟩ : ∃ j, k = j + 1 := ⟨k - 1, by omega⟩
 rw [List.take_succ_eq_append_getElem (by omega)]
 simp [List.getD_eq_getElem?_getD, show j < ls.length by omega]
theorem cw {ls : List Nat} {a : Option Addr} {c : Nat} {w : World} (h : Limbs w a c ls) :
  CallsR Tryz.prog 51 #[.slice a ls.length c] w fun v w' => v = .slice a (trimL ls).length c ∧ Ex w w' := by
 have hlen := h.len
 have hcap := h.cap
 refine aE (args := [_]) Tryz.func51 rfl rfl ?_
 repeat' (first|refine aj rfl ?_|refine aa ?_|refine ak ?_|refine ai rfl ?_|refine ah ?_|refine ay ?_)
 refine aW (ι := Nat) [0, 3, 4, 5, 6, 7, 8, 9, 10, 11, 12, 13, 14, 15, 16, 17, 18, 19] (fun k => [(0, .slice a k c)]) (fun k w' => k ≤ ls.length ∧ w' = w ∧ trimL (ls.take k) = trimL ls) (fun k => k) ls.length ⟨rfl, trivial⟩ ⟨Nat.le_refl _, rfl, by simp⟩ ?_
 rintro k ξ w2 ⟨hk, rfl, hT⟩
 repeat' (first|(refine az (j := k - 1) rfl (by show Value.int .i64 ((k : Int) - 1) = _; congr 1; omega) (h.sl.plain (by simp; omega)) (by omega) ?_)|refine bI rfl h.sl (by omega) ?_|refine aj rfl ?_|refine aa ?_|refine ak ?_|refine ai rfl ?_|refine ah ?_|refine bc rfl ?_|refine bJ rfl rfl ?_|refine bY rfl rfl ?_|refine gV rfl rfl (fun hc => ?_) (fun hc => ?_)|refine bK rfl rfl (by omega) (by omega) ?_|refine ao rfl ?_|refine aQ rfl (fun hc => ?_) (fun hc => ?_)|refine ay ?_|refine aT ?_|refine aO ?_|refine aU ?_|refine aK ?_|refine aC ?_)
 ·refine j5 rfl rfl (by omega) (by omega) ?_
  rw [show ((k : Int) - 1).toNat = k - 1 by omega]
  repeat' (first|refine aj rfl ?_|refine aa ?_|refine ah ?_|refine aJ ?_)
  refine ⟨⟨k - 1, ⟨by omega, rfl, ?_⟩, by omega, rfl, trivial⟩, (by (repeat (first|exact aG _ _ _|refine aB rfl ?_|refine ax rfl ?_|refine av rfl ?_|refine aw rfl ?_)))⟩
  rw [← hT, eo hk (by omega), show ls.getD (k - 1) 0 = 0 by omega, d6]
 ·refine bo rfl (rt rfl) ⟨?_, Ex.refl _⟩
  rw [← hT, eo hk (by omega), jn (by omega), ← eo hk (by omega)]
  simp only [List.length_take, Nat.min_eq_left hk]; rfl
 ·obtain rfl : k = 0 := by omega
  refine bo rfl (rt rfl) ⟨?_, Ex.refl _⟩
  rw [← hT]; rfl
def RetN (w : World) (ls : List Nat) (v : Value) (w' : World) : Prop := ∃ a c, v = .slice a ls.length c ∧ Limbs w' a c ls ∧ (∀ ad, a = some ad → w.heap.size ≤ ad.block) ∧ Ex w w'
theorem dK {n : Nat} (hn : n < 18446744073709551616) (w : World) : CallsR Tryz.prog 91 #[.int .u64 (n : Int)] w (RetN w (digs n)) := by
 refine aE (args := [_]) Tryz.func91 rfl rfl ?_
 repeat' (first|refine aj rfl ?_|refine aa ?_|refine ak ?_|refine ai rfl ?_|refine ah ?_)
 refine im rfl ?_
 rw [show IntKind.u32.wrap ((n : Nat) : Int) = ((n % 4294967296 : Nat) : Int) from (cY rfl).trans (by simp [IntKind.bits])]
 repeat' (first|refine dP (j := 32) rfl rfl (.inl rfl) ?_|refine aj rfl ?_)
 rw [Nat.shiftRight_eq_div_pow]
 refine cF rfl (tG (by omega) (by omega)) ?_
 refine tI rfl rfl rfl rfl (fun g w1 hn1 => tvv ?_)
 have hL : Limbs w1 (some ⟨g, 0, none⟩) 2 [n % 4294967296, n / 2 ^ 32] := ⟨hn1.blk.sl, by simp, by intro d hd; simp at hd; omega, by simp⟩
 refine au (cw hL) rfl ?_
 rintro v w2 ⟨rfl, hE2⟩
 refine tvv ?_
 repeat' (first|refine aj rfl ?_|refine aa ?_|refine ah ?_|refine aK ?_)
 exact bo rfl (rt rfl) ⟨_, _, rfl, hL.trim.ext hE2, by intro ad e; cases e; exact hn1.lo, hn1.ex.trans hE2⟩
theorem gE {ls : List Nat} {a : Option Addr} {c : Nat} {w : World} (h : Limbs w a c ls) (h2 : ls.length ≤ 2) :
  CallsR Tryz.prog 92 #[.slice a ls.length c] w fun v w' => v = .int .u64 ((natOf ls : Nat) : Int) ∧ Ex w w' := by
 refine aE (args := [_]) Tryz.func92 rfl rfl ?_
 repeat' (first|refine aj rfl ?_|refine aa ?_|refine ak ?_|refine ai rfl ?_|refine ah ?_|refine bc rfl ?_|refine ay ?_)
 refine aW (ι := Nat) [3, 4, 5, 8, 9, 10, 11, 12, 13, 14, 15, 16, 17, 18, 19, 20] (fun k => [(8, .int .i64 (k : Int)), (3, .int .u64 ((natOf (ls.take k) : Nat) : Int))]) (fun k w' => k ≤ ls.length ∧ w' = w) (fun k => ls.length - k) 0 ⟨rfl, rfl, trivial⟩ ⟨by simp, rfl⟩ ?_
 rintro k ξ w2 ⟨hk, rfl⟩
 have hlt := bQ (h.lim.take k)
 have hd := h.lim.getD k
 repeat' (first|(refine az rfl rfl (h.sl.plain (by simp; omega)) (by omega) ?_)|refine bI rfl h.sl (by omega) ?_|refine cF rfl (cV (by omega) (by omega)) ?_|refine cP rfl rfl (by omega) (by omega) ?_|refine aj rfl ?_|refine aa ?_|refine ak ?_|refine ai rfl ?_|refine ah ?_|refine aQ rfl (fun hc => ?_) (fun hc => ?_)|refine ay ?_|refine aT ?_|refine aO ?_|refine aU ?_|refine aK ?_|refine aC ?_)
 ·refine j3 (j := 32 * k) rfl rfl rfl (by simp only [IntKind.bits]; omega) ?_
  have hkk : k = 0 ∨ k = 1 := by omega
  have hsh : (ls.getD k 0 <<< (32 * k)) % 2 ^ IntKind.u64.bits = ls.getD k 0 <<< (32 * k) := Nat.mod_eq_of_lt (by
   rw [Nat.shiftLeft_eq]; rcases hkk with rfl | rfl <;> simp only [IntKind.bits] <;> omega)
  have hsh2 : ls.getD k 0 <<< (32 * k) < 18446744073709551616 := by rw [Nat.shiftLeft_eq]; rcases hkk with rfl | rfl <;> omega
  have hlt' : natOf (ls.take k) < 2 ^ (32 * k) := by
   simp only [List.length_take, Nat.min_eq_left hk] at hlt
   rcases hkk with rfl | rfl <;> simpa using hlt
  rw [hsh]
  refine lE rfl rfl rfl (by simp only [IntKind.bits]; rcases hkk with rfl | rfl <;> omega) hsh2 ?_
  repeat' (first|refine aj rfl ?_|refine aa ?_|refine ai rfl ?_|refine ah ?_|refine aV rfl rfl (by omega) (by omega) ?_|refine aJ ?_)
  refine ⟨⟨k + 1, ⟨by omega, rfl⟩, by omega, rfl, ?_, trivial⟩, (by (repeat (first|exact aG _ _ _|refine aB rfl ?_|refine ax rfl ?_|refine av rfl ?_|refine aw rfl ?_)))⟩
  show Value.int .u64 _ = _
  congr 2
  have e := eo (ls := ls) (k := k + 1) (by omega) (by omega)
  rw [Nat.add_sub_cancel] at e
  rw [e, dG, Nat.or_comm, ← Nat.shiftLeft_add_eq_or_of_lt hlt', Nat.shiftLeft_eq]
  simp only [List.length_take, Nat.min_eq_left hk]
  rcases hkk with rfl | rfl <;> omega
 ·obtain rfl : k = ls.length := by omega
  refine bo rfl (rt rfl) ⟨?_, Ex.refl _⟩
  show Value.int .u64 _ = _
  rw [List.take_length]
end Go.Proofs.YtpfhfldehaiokaaGreat
