/-
  The tables of this seat: types, functions with their notes, contracts. Printed by a program of our own.
-/
import Derived.Test.YtkfniijfenkocaaA28
import Derived.Test.YtkfniijfenkocaaDefs
import Derived.Test.YtkfniijfenkocaaProg
namespace Go.Proofs.Ytkfniijfenkocaa
open Go.Abs

def tyTab : List (Nat × Ty) := [
  (2, ⟨.int .i64, 1, 8, [.int .i64], false⟩),
  (3, ⟨.int .i64, 1, 8, [.int .i64], false⟩),
  (4, ⟨.bool, 1, 1, [.bool], false⟩),
  (5, ⟨.int .u8, 1, 1, [.int .u8], false⟩),
  (9, ⟨.str, 1, 16, [.str], false⟩),
  (22, ⟨.slice 43, 1, 24, [.slice 43], false⟩),
  (23, ⟨.slice 43, 1, 24, [.slice 43], false⟩),
  (26, ⟨.int .i64, 1, 8, [.int .i64], false⟩),
  (29, ⟨.slice 23, 1, 24, [.slice 23], false⟩),
  (32, ⟨.slice 65, 1, 24, [.slice 65], false⟩),
  (36, ⟨.slice 3, 1, 24, [.slice 3], false⟩),
  (41, ⟨.slice 61, 1, 24, [.slice 61], false⟩),
  (43, ⟨.struct [(0, 3), (1, 3), (2, 3), (3, 41)], 4, 48, [.int .i64, .int .i64, .int .i64, .slice 61], false⟩),
  (54, ⟨.slice 5, 1, 24, [.slice 5], false⟩),
  (61, ⟨.struct [(0, 3), (1, 9), (2, 9), (3, 2), (4, 9)], 5, 64, [.int .i64, .str, .str, .int .i64, .str], true⟩),
  (65, ⟨.struct [(0, 3), (1, 3)], 2, 16, [.int .i64, .int .i64], true⟩),
  (79, ⟨.int .u64, 1, 8, [.int .u64], false⟩),
  (94, ⟨.int .u64, 1, 8, [.int .u64], false⟩),
  (98, ⟨.struct [(0, 54), (1, 3), (2, 26)], 3, 40, [.slice 5, .int .i64, .int .i64], false⟩),
  (111, ⟨.ptr 98, 1, 8, [.ptr], false⟩),
  (121, ⟨.slice 9, 1, 24, [.slice 9], false⟩)]

noncomputable def codeOf (f : Func) : Code := match f.body with | some c => c | none => .skip
noncomputable def F70 : AFunc := ⟨codeOf Try.f70, .leaf, [3], [.tmp 2], [], [], true⟩
noncomputable def F66 : AFunc := ⟨codeOf Try.f66, .leaf, [61], [.tmp 2], [], [], true⟩
noncomputable def F71 : AFunc := ⟨codeOf Try.f71, .leaf, [61], [.tmp 2], [], [], true⟩
noncomputable def F89 : AFunc := ⟨codeOf Try.f89, .leaf, [61], [.tmp 2], [], [], true⟩
noncomputable def F102 : AFunc := ⟨codeOf Try.f102, (.seq none .leaf (.seq none (.seq none .leaf (.sub (.loop [(0, false), (1, false), (7, false), (8, false)] .leaf))) .leaf)), [41, 105], [.tmp 4], [], [], true⟩
noncomputable def F88 : AFunc := ⟨codeOf Try.f88, .leaf, [41, 105], [.tmp 4], [], [], true⟩
noncomputable def F67 : AFunc := ⟨codeOf Try.f67, (.seq none (.reg [1] []) .leaf), [43], [.tmp 2], [], [], true⟩
noncomputable def F72 : AFunc := ⟨codeOf Try.f72, (.seq none (.reg [1] []) (.seq none (.seq none .leaf (.sub (.loop [(1, true), (3, false)] .leaf))) .leaf)), [43], [.tmp 2], [], [], true⟩
noncomputable def F40 : AFunc := ⟨codeOf Try.f40, (.seq none (.reg [1] []) (.seq none .leaf (.seq none (.seq none .leaf (.sub (.loop [(1, true), (46, false), (47, false), (48, false)] .leaf))) .leaf))), [43], [.tmp 2], [], [], true⟩
noncomputable def F42 : AFunc := ⟨codeOf Try.f42, (.seq none (.reg [1] []) (.seq none .leaf (.seq none (.seq none .leaf (.sub (.loop [(1, true), (3, false)] .leaf))) .leaf))), [43], [.tmp 2], [], [], true⟩
noncomputable def F90 : AFunc := ⟨codeOf Try.f90, .leaf, [3], [.tmp 2], [], [], true⟩
noncomputable def F69 : AFunc := ⟨codeOf Try.f69, .leaf, [3, 3], [.tmp 4], [], [], true⟩
noncomputable def F68 : AFunc := ⟨codeOf Try.f68, (.seq none .leaf (.seq none .leaf (.seq none (.seq none .leaf (.sub (.loop [(3, false), (6, false), (7, false), (8, false)] .leaf))) .leaf))), [36], [.tmp 2], [], [], true⟩
noncomputable def F41 : AFunc := ⟨codeOf Try.f41, (.seq none (.reg [2, 3] []) .leaf), [43, 43], [.tmp 4], [], [], true⟩
noncomputable def F43 : AFunc := ⟨codeOf Try.f43, (.seq none (.reg [2, 3] []) .leaf), [43, 43], [.tmp 4], [], [], true⟩
noncomputable def F51 : AFunc := ⟨codeOf Try.f51, (.seq none (.reg [2, 3] []) (.seq none .leaf (.seq none (.seq none .leaf (.sub (.loop [(2, true), (3, true), (5, false)] .leaf))) .leaf))), [43, 43], [.tmp 4], [], [], true⟩
noncomputable def F58 : AFunc := ⟨codeOf Try.f58, (.seq none (.reg [4] []) (.seq none (.reg [5] []) (.seq none (.sub (.loop [(0, true), (1, false), (5, true)] (.seq none .leaf (.sub (.seq none (.reg [5, 8] []) .leaf))))) (.seq none (.reg [5, 16] []) (.seq none (.reg [4, 21, 26] []) .leaf))))), [54, 79], [.tmp 4], [], [0], true⟩
noncomputable def F82 : AFunc := ⟨codeOf Try.f82, (.seq none (.reg [4] []) (.seq none (.reg [5] []) (.seq none (.sub (.loop [(1, false), (5, true)] (.seq none .leaf (.sub (.seq none (.reg [5, 11] []) .leaf))))) (.seq none (.reg [4, 20] []) .leaf)))), [54, 79], [.tmp 4], [], [0], true⟩
noncomputable def F78 : AFunc := ⟨codeOf Try.f78, (.seq none (.reg [4] []) (.seq none (.reg [4] []) .leaf)), [54, 9], [.tmp 4], [], [0], true⟩
noncomputable def F83 : AFunc := ⟨codeOf Try.f83, (.seq none (.reg [4] []) (.seq none (.reg [4] []) .leaf)), [54, 9], [.tmp 4], [], [0], true⟩
noncomputable def F99 : AFunc := ⟨codeOf Try.f99, .leaf, [2], [.tmp 2], [], [], true⟩
noncomputable def F79 : AFunc := ⟨codeOf Try.f79, (.seq none (.reg [4] []) (.seq none (.reg [4] []) .leaf)), [54, 2], [.tmp 4], [], [0], true⟩
noncomputable def F84 : AFunc := ⟨codeOf Try.f84, (.seq none (.reg [4] []) (.seq none (.reg [4] []) .leaf)), [54, 2], [.tmp 4], [], [0], true⟩
noncomputable def F59 : AFunc := ⟨codeOf Try.f59, (.seq none (.reg [3, 4] []) (.seq none .leaf (.seq none (.seq none .leaf (.sub (.loop [(0, true), (3, true), (5, false), (19, false), (20, false), (21, false)] .leaf))) (.seq none (.seq none .leaf (.sub (.loop [(0, true), (5, false), (31, false), (32, false), (33, false)] .leaf))) (.seq none (.reg [4, 57, 62] []) .leaf))))), [54, 43], [.tmp 4], [], [0], true⟩
noncomputable def F62 : AFunc := ⟨codeOf Try.f62, (.seq none (.reg [4] []) (.seq none (.seq none .leaf (.sub (.loop [(0, false), (1, false), (5, false)] (.seq none .leaf (.seq none (.sub (.reg [0] [])) .leaf))))) (.seq none (.reg [4, 19] []) .leaf))), [54, 36], [.tmp 4], [], [], true⟩
noncomputable def F63 : AFunc := ⟨codeOf Try.f63, (.seq none (.reg [3, 4] []) (.seq none (.reg [0] []) (.seq none (.seq none .leaf (.sub (.loop [(0, false), (3, true), (5, false)] (.seq none .leaf (.seq none (.sub (.seq none .leaf (.seq none (.reg [0] []) (.seq none (.reg [0] []) (.reg [0] []))))) .leaf))))) (.seq none (.reg [4, 50] []) .leaf)))), [54, 43], [.tmp 4], [], [], true⟩
noncomputable def F60 : AFunc := ⟨codeOf Try.f60, (.seq none .leaf (.scope [(0, false), (5, false), (6, false)] .leaf .leaf)), [54], [.tmp 2, .tmp 3, .tmp 4], [], [], true⟩
noncomputable def F64 : AFunc := ⟨codeOf Try.f64, (.seq none .leaf (.seq none .leaf (.seq none (.seq none .leaf (.sub (.loop [(0, false), (5, false), (6, false)] .leaf))) .leaf))), [54], [.tmp 2, .tmp 3, .tmp 4], [], [], true⟩
noncomputable def F105 : AFunc := ⟨codeOf Try.f105, .leaf, [54], [.tmp 2, .tmp 3, .tmp 4], [], [], true⟩
noncomputable def F107 : AFunc := ⟨codeOf Try.f107, .leaf, [54], [.tmp 2, .tmp 3, .tmp 4], [], [], true⟩
noncomputable def F104 : AFunc := ⟨codeOf Try.f104, .leaf, [54], [.tmp 2, .tmp 3, .tmp 4], [], [], true⟩
noncomputable def F106 : AFunc := ⟨codeOf Try.f106, .leaf, [54], [.tmp 2, .tmp 3, .tmp 4], [], [], true⟩
noncomputable def F85 : AFunc := ⟨codeOf Try.f85, .leaf, [54], [.tmp 2, .tmp 3, .tmp 4], [], [], true⟩
noncomputable def F96 : AFunc := ⟨codeOf Try.f96, .leaf, [111, 3, 26], [], [], [], true⟩
noncomputable def F80 : AFunc := ⟨codeOf Try.f80, .leaf, [111], [.tmp 2], [], [], true⟩
noncomputable def F97 : AFunc := ⟨codeOf Try.f97, .leaf, [111], [.tmp 2], [], [], true⟩
noncomputable def F98 : AFunc := ⟨codeOf Try.f98, .leaf, [111], [.tmp 2], [], [], true⟩
noncomputable def F81 : AFunc := ⟨codeOf Try.f81, .leaf, [111], [.cell 2 61], [], [], true⟩
noncomputable def F61 : AFunc := ⟨codeOf Try.f61, (.seq none .leaf (.seq none (.reg [9, 10] []) (.seq none (.reg [12] []) (.seq none .leaf (.seq none .leaf (.seq none .leaf (.seq none .leaf (.seq none (.seq none .leaf (.sub (.loop [(2, false), (5, false), (6, false), (7, false), (8, false)] (.seq none .leaf (.seq none (.sub (.reg [37, 40] [])) .leaf))))) (.seq none .leaf (.seq none (.seq none .leaf (.cond (.seq none (.reg [51] []) .leaf) .leaf)) (.seq none (.reg [54] []) .leaf))))))))))), [54], [.cell 2 43, .tmp 3, .tmp 4], [], [0], true⟩
noncomputable def F100 : AFunc := ⟨codeOf Try.f100, (.seq none (.reg [4] []) (.seq none (.reg [7] []) (.seq none .leaf (.seq none (.seq none .leaf (.sub (.loop [(0, false), (1, false), (7, true), (8, false), (9, false)] (.seq none .leaf (.seq none (.sub (.seq none .leaf (.seq none (.seq none .leaf (.cond (.seq none (.reg [4] []) .leaf) .leaf)) (.seq none (.reg [7, 29] []) .leaf)))) .leaf))))) (.seq none (.reg [4, 36] []) .leaf))))), [54, 3], [.tmp 4, .tmp 5, .tmp 6], [], [0], true⟩
noncomputable def F101 : AFunc := ⟨codeOf Try.f101, .leaf, [54], [.cell 2 61, .tmp 3, .tmp 4], [], [], true⟩
noncomputable def F86 : AFunc := ⟨codeOf Try.f86, (.seq none .leaf (.seq none .leaf (.seq none (.seq none .leaf (.cond (.seq none (.reg [22] []) .leaf) .leaf)) (.seq none (.seq none .leaf (.cond (.seq none (.reg [28] []) .leaf) .leaf)) (.seq none (.reg [38] []) (.seq none (.seq none .leaf (.sub (.loop [(0, false), (2, false), (5, false), (6, false), (8, false), (9, false)] (.seq none .leaf (.seq none (.sub (.seq none .leaf (.seq none (.seq none .leaf (.cond (.seq none (.reg [56] []) .leaf) .leaf)) (.seq none (.reg [59, 62] []) .leaf)))) .leaf))))) (.seq none (.seq none .leaf (.seq none .leaf (.cond (.seq none (.reg [71] []) .leaf) .leaf))) (.seq none (.reg [73] []) .leaf)))))))), [54], [.cell 2 43, .tmp 3, .tmp 4], [], [0], true⟩
noncomputable def F34 : AFunc := ⟨codeOf Try.f34, .leaf, [3, 3], [.tmp 4], [], [], true⟩
noncomputable def F54 : AFunc := ⟨codeOf Try.f54, (.seq none .leaf (.seq none .leaf (.seq none (.seq none .leaf (.sub (.loop [(1, false), (2, false), (7, false), (8, false)] .leaf))) .leaf))), [3, 3, 3], [.tmp 6], [], [], true⟩
noncomputable def F93 : AFunc := ⟨codeOf Try.f93, .leaf, [3], [.tmp 2], [], [], true⟩
noncomputable def F76 : AFunc := ⟨codeOf Try.f76, .leaf, [3, 4], [.cell 4 61], [], [], true⟩
noncomputable def F55 : AFunc := ⟨codeOf Try.f55, (.seq none .leaf (.seq none (.reg [11] []) (.seq none (.seq none .leaf (.cond (.seq none .leaf (.seq none (.reg [20] []) (.seq none (.reg [22] []) .leaf))) .leaf)) (.seq none (.seq none .leaf (.sub (.loop [(2, false), (6, false), (7, false), (8, false)] (.seq none .leaf (.seq none (.sub (.reg [30, 38] [])) .leaf))))) (.seq none (.reg [40] []) .leaf))))), [3, 3, 3], [.cell 6 43], [], [0], true⟩
noncomputable def F25 : AFunc := ⟨codeOf Try.f25, (.seq none (.reg [2] []) (.seq none (.reg [3] []) (.seq none (.seq none .leaf (.sub (.loop [(0, false), (3, true), (4, false)] (.seq none .leaf (.seq none (.sub (.seq none .leaf (.seq none .leaf (.sub (.loop [(0, false), (3, true), (4, false), (5, false), (6, false)] (.seq none .leaf (.seq none (.sub (.seq none .leaf (.cond (.seq none .leaf (.reg [3, 34] [])) .leaf))) .leaf))))))) .leaf))))) (.seq none (.reg [2, 47] []) .leaf)))), [36], [.tmp 2], [], [0], true⟩
noncomputable def F95 : AFunc := ⟨codeOf Try.f95, .leaf, [65, 3], [.tmp 4], [], [], true⟩
noncomputable def F94 : AFunc := ⟨codeOf Try.f94, (.seq none .leaf (.seq none .leaf (.seq none .leaf (.seq none (.sub (.loop [(0, false), (1, false), (2, false), (8, false), (9, false), (10, false)] .leaf)) .leaf)))), [32, 3, 110], [.tmp 6, .tmp 7], [], [], true⟩
noncomputable def F77 : AFunc := ⟨codeOf Try.f77, .leaf, [32, 3], [.tmp 4, .tmp 5], [], [], true⟩
noncomputable def F57 : AFunc := ⟨codeOf Try.f57, .leaf, [32, 3], [.tmp 4], [], [], true⟩
noncomputable def F46 : AFunc := ⟨codeOf Try.f46, (.seq none .leaf (.seq none (.seq none .leaf (.sub (.loop [(0, false), (1, false), (5, false)] .leaf))) .leaf)), [32, 3], [.tmp 4], [], [], true⟩
noncomputable def F45 : AFunc := ⟨codeOf Try.f45, (.seq none (.reg [6] []) (.seq none (.seq none .leaf (.cond (.seq none (.reg [6, 20] []) .leaf) .leaf)) (.seq none (.reg [7] []) (.seq none .leaf (.seq none (.seq none .leaf (.sub (.loop [(0, true), (1, false), (2, false), (7, true), (8, false), (9, false)] (.seq none .leaf (.seq none (.sub (.seq none (.seq none .leaf (.cond (.seq none (.reg [7, 40] []) .leaf) .leaf)) (.seq none .leaf (.cond (.reg [7, 53] []) .leaf)))) .leaf))))) (.seq none (.seq none .leaf (.cond (.reg [7, 62] []) .leaf)) (.seq none (.reg [6, 68] []) .leaf))))))), [32, 3, 3], [.tmp 6], [], [], true⟩
noncomputable def F16 : AFunc := ⟨codeOf Try.f16, (.seq none .leaf (.seq none .leaf (.seq none (.seq none .leaf (.sub (.loop [(0, false), (1, false), (5, false)] .leaf))) .leaf))), [32, 32], [.tmp 4], [], [], true⟩
noncomputable def F27 : AFunc := ⟨codeOf Try.f27, (.seq none (.reg [4] []) (.seq none (.reg [5] []) (.seq none (.seq none .leaf (.sub (.loop [(1, false), (5, false), (6, false)] (.seq none .leaf (.seq none (.sub (.seq none .leaf (.cond (.reg [5] []) .leaf))) .leaf))))) (.seq none (.reg [4, 41] []) .leaf)))), [32, 32], [.tmp 4], [], [], true⟩
noncomputable def F28 : AFunc := ⟨codeOf Try.f28, (.seq none .leaf (.seq none (.seq none .leaf (.sub (.loop [(0, false), (1, false), (5, false)] .leaf))) .leaf)), [32, 32], [.tmp 4], [], [], true⟩
noncomputable def F31 : AFunc := ⟨codeOf Try.f31, (.seq none .leaf (.seq none (.seq none .leaf (.sub (.loop [(0, false), (3, false)] .leaf))) .leaf)), [32], [.tmp 2], [], [], true⟩
noncomputable def F13 : AFunc := ⟨codeOf Try.f13, (.seq none .leaf (.seq none (.seq none .leaf (.sub (.loop [(0, false), (6, false), (7, false), (8, false)] (.seq none .leaf (.seq none .leaf (.seq none (.sub (.seq none (.reg [12] []) .leaf)) .leaf)))))) .leaf)), [23], [.tmp 2], [], [], true⟩
noncomputable def F14 : AFunc := ⟨codeOf Try.f14, (.seq none .leaf (.seq none (.seq none .leaf (.sub (.loop [(0, false), (3, false)] .leaf))) .leaf)), [23], [.tmp 2], [], [], true⟩
noncomputable def F22 : AFunc := ⟨codeOf Try.f22, (.seq none .leaf (.seq none .leaf (.seq none (.seq none .leaf (.sub (.loop [(0, false), (1, false), (5, false)] .leaf))) .leaf))), [23, 23], [.tmp 4], [], [], true⟩
noncomputable def F36 : AFunc := ⟨codeOf Try.f36, (.seq none (.reg [4] []) (.seq none (.reg [5] []) (.seq none (.seq none .leaf (.sub (.loop [(0, true), (5, true), (12, false), (13, false), (14, false)] (.seq none .leaf (.seq none .leaf (.seq none (.sub (.seq none (.reg [17] []) (.reg [5, 18] []))) .leaf)))))) (.seq none (.reg [4, 23, 28] []) .leaf)))), [54, 23], [.tmp 4], [], [0], true⟩
noncomputable def F38 : AFunc := ⟨codeOf Try.f38, (.seq none (.reg [4] []) (.seq none (.reg [0] []) (.seq none (.seq none .leaf (.sub (.loop [(0, true), (1, false), (5, false)] (.seq none .leaf (.seq none (.sub (.reg [0] [])) .leaf))))) (.seq none (.reg [4, 23] []) .leaf)))), [54, 23], [.tmp 4], [], [], true⟩
noncomputable def F37 : AFunc := ⟨codeOf Try.f37, (.seq none (.reg [2] []) (.seq none .leaf (.seq none (.seq none .leaf (.cond (.seq none (.reg [2] []) .leaf) .leaf)) (.seq none (.seq none .leaf (.cond (.seq none (.reg [2] []) .leaf) .leaf)) (.seq none (.reg [8] []) (.seq none (.seq none .leaf (.sub (.loop [(0, false), (6, false), (8, true), (24, false), (25, false)] (.seq none .leaf (.seq none .leaf (.seq none (.sub (.seq none (.reg [27, 32] []) (.seq none (.seq none .leaf (.cond (.seq none (.reg [2] []) .leaf) .leaf)) (.seq none (.reg [8, 38] []) .leaf)))) .leaf)))))) (.seq none (.seq none .leaf (.seq none .leaf (.cond (.seq none (.reg [2] []) .leaf) .leaf))) (.seq none (.reg [2, 51] []) .leaf)))))))), [54], [.tmp 2, .tmp 3, .tmp 4], [], [0], true⟩
noncomputable def F65 : AFunc := ⟨codeOf Try.f65, (.seq none (.reg [2] []) (.seq none .leaf (.seq none (.seq none .leaf (.cond (.seq none (.reg [2] []) .leaf) .leaf)) (.seq none (.seq none .leaf (.cond (.seq none (.reg [2] []) .leaf) .leaf)) (.seq none (.reg [8] []) (.seq none (.seq none .leaf (.sub (.loop [(0, false), (5, false), (6, false), (8, true), (9, false)] (.seq none .leaf (.seq none (.sub (.seq none (.reg [29, 34] []) (.seq none (.seq none .leaf (.cond (.seq none (.reg [2] []) .leaf) .leaf)) (.seq none (.reg [8, 40] []) .leaf)))) .leaf))))) (.seq none (.reg [2, 47] []) .leaf))))))), [54], [.tmp 2, .tmp 3, .tmp 4], [], [0], true⟩
noncomputable def F39 : AFunc := ⟨codeOf Try.f39, (.seq none (.reg [2] []) (.seq none (.seq none .leaf (.seq none .leaf (.cond (.seq none (.reg [2] []) .leaf) .leaf))) (.seq none (.reg [8, 24, 27] []) (.seq none (.seq none .leaf (.cond (.seq none (.reg [2] []) .leaf) .leaf)) (.seq none (.seq none .leaf (.seq none .leaf (.cond (.seq none (.reg [2] []) .leaf) .leaf))) (.seq none (.reg [2, 38] []) .leaf)))))), [54], [.tmp 2, .tmp 3, .tmp 4], [], [0], true⟩
noncomputable def F74 : AFunc := ⟨codeOf Try.f74, (.seq none (.reg [4] []) (.seq none .leaf (.seq none .leaf (.seq none (.sub (.loop [(0, false), (2, false), (4, true), (8, false), (9, false), (10, false)] .leaf)) .leaf)))), [23, 43, 63], [.tmp 6, .tmp 7], [], [], true⟩
noncomputable def F49 : AFunc := ⟨codeOf Try.f49, (.seq none (.reg [3] []) (.seq none (.reg [] [(2, ⟨[.one (.int .i64), .one .bool], [[.arrp 43]]⟩)]) .leaf)), [23, 43], [.tmp 4, .tmp 5], [], [], true⟩
noncomputable def F56 : AFunc := ⟨codeOf Try.f56, (.seq none .leaf (.seq none .leaf (.seq none (.seq none .leaf (.sub (.loop [(1, false), (5, false), (8, false), (9, false), (10, false)] (.seq none .leaf (.seq none .leaf (.seq none (.sub (.seq none (.reg [13] []) .leaf)) .leaf)))))) .leaf))), [23, 3], [.tmp 4], [], [], true⟩
noncomputable def F48 : AFunc := ⟨codeOf Try.f48, (.seq none (.reg [2] []) .leaf), [43, 3], [.tmp 3], [], [], true⟩
noncomputable def F73 : AFunc := ⟨codeOf Try.f73, (.seq none .leaf (.seq none (.seq none .leaf (.sub (.loop [(0, false), (1, false), (7, false), (8, false)] .leaf))) .leaf)), [23, 71], [.tmp 4], [], [], true⟩
noncomputable def F47 : AFunc := ⟨codeOf Try.f47, .leaf, [23, 71], [.tmp 4], [], [], true⟩
noncomputable def F19 : AFunc := ⟨codeOf Try.f19, (.seq none (.reg [2] []) .leaf), [23, 23], [.tmp 4], [], [], true⟩
noncomputable def F21 : AFunc := ⟨codeOf Try.f21, .leaf, [23, 23], [.tmp 4], [], [], true⟩
noncomputable def F17 : AFunc := ⟨codeOf Try.f17, (.seq none (.reg [2] []) (.seq none (.reg [3, 1000003] []) (.seq none (.seq none .leaf (.sub (.loop [(3, true), (7, false), (8, false), (9, false)] (.seq none .leaf (.seq none .leaf (.seq none (.sub (.seq none (.reg [12] []) (.seq none .leaf (.seq none .leaf (.cond .leaf (.reg [3, 37] [])))))) .leaf)))))) (.seq none (.reg [2, 44, 2000044] []) .leaf)))), [23], [.tmp 2], [], [], true⟩
noncomputable def F53 : AFunc := ⟨codeOf Try.f53, (.seq none (.reg [3, 4] []) (.seq none (.reg [] [(2, ⟨[.one (.int .i64), .one .bool], [[.arrp 43]]⟩)]) (.seq none (.reg [4] [(4, ⟨[.one (.msl 43 1)], [[.deadp], [.arrp 43]]⟩)]) .leaf))), [23, 43], [.tmp 4], [], [], true⟩
noncomputable def F23 : AFunc := ⟨codeOf Try.f23, (.seq none (.reg [4] []) (.seq none (.reg [5] [(1, ⟨[.one (.msl 43 1)], [[.deadp], [.arrp 43]]⟩)]) (.seq none (.seq none .leaf (.sub (.loop [(5, true), (12, false), (13, false), (14, false)] (.seq none .leaf (.seq none .leaf (.seq none (.sub (.seq none (.reg [17] []) (.seq none (.reg [] [(2, ⟨[.one (.int .i64), .one .bool], [[.arrp 43]]⟩)]) (.seq none .leaf (.cond (.reg [5] []) .leaf))))) .leaf)))))) (.seq none (.reg [4, 30, 2000004] []) .leaf)))), [23, 23], [.tmp 4], [], [], true⟩
noncomputable def F29 : AFunc := ⟨codeOf Try.f29, (.seq none (.reg [3, 4] []) (.seq none (.seq none .leaf (.seq none .leaf (.cond (.seq none (.reg [4] []) .leaf) .leaf))) (.seq none (.seq none .leaf (.seq none .leaf (.cond (.seq none (.reg [4] []) .leaf) .leaf))) (.seq none (.seq none .leaf (.cond (.seq none (.reg [4] []) .leaf) .leaf)) (.seq none (.reg [4, 2000004] [(1, ⟨[.one (.msl 43 1)], [[.deadp], [.arrp 43]]⟩)]) .leaf))))), [23, 43], [.tmp 4, .tmp 5], [], [], true⟩
noncomputable def F35 : AFunc := ⟨codeOf Try.f35, (.seq none (.reg [4] []) (.scope [(0, false), (1, false)] (.seq none (.reg [7] [(1, ⟨[.one (.msl 43 1)], [[.deadp], [.arrp 43]]⟩)]) (.seq none .leaf (.seq none .leaf (.seq none (.seq none .leaf (.sub (.loop [(7, true), (8, false), (9, false), (16, false), (17, false), (18, false)] (.seq none .leaf (.seq none .leaf (.seq none (.sub (.seq none (.reg [21] []) (.seq none (.seq none (.reg [] [(9, ⟨[.one (.int .i64)], [[.arrp 43]]⟩)]) .leaf) (.seq none (.seq none .leaf (.sub (.loop [(7, true), (8, false), (9, false), (11, false), (16, false), (17, false), (18, false), (37, false), (38, false), (39, false)] (.seq none .leaf (.seq none .leaf (.seq none (.sub (.seq none (.reg [42] []) .leaf)) .leaf)))))) (.seq none (.reg [7] []) .leaf))))) .leaf)))))) (.seq none (.reg [4, 54, 2000004] []) .leaf))))) .leaf)), [23, 22], [.tmp 4, .tmp 5, .tmp 6], [], [], true⟩
noncomputable def F32 : AFunc := ⟨codeOf Try.f32, (.seq none (.reg [6] []) (.seq none (.reg [8] []) (.seq none (.seq none .leaf (.sub (.loop [(1, false), (2, false), (8, true), (12, false), (13, false), (14, false)] (.seq none .leaf (.seq none .leaf (.seq none (.sub (.seq none (.reg [17] []) (.seq none .leaf (.cond (.reg [8, 25] []) .leaf)))) .leaf)))))) (.seq none .leaf (.seq none (.reg [6, 2000006] [(3, ⟨[.one (.msl 43 1)], [[.deadp], [.arrp 43]]⟩)]) .leaf))))), [23, 32, 3], [.tmp 6, .tmp 7], [], [], true⟩
noncomputable def F18 : AFunc := ⟨codeOf Try.f18, (.seq none (.reg [2] []) (.seq none (.reg [3] []) (.seq none (.seq none .leaf (.sub (.loop [(0, false), (3, false), (4, false)] (.seq none .leaf (.seq none (.sub (.reg [3] [])) .leaf))))) (.seq none (.reg [2, 26] []) .leaf)))), [23], [.tmp 2], [], [], true⟩
noncomputable def F50 : AFunc := ⟨codeOf Try.f50, (.seq none (.reg [3] []) (.seq none (.seq none .leaf (.sub (.loop [(0, false), (3, true), (5, false)] .leaf))) .leaf)), [23, 43], [.tmp 4], [], [], true⟩
noncomputable def F20 : AFunc := ⟨codeOf Try.f20, (.seq none .leaf (.seq none (.seq none .leaf (.sub (.loop [(0, false), (1, false), (5, false)] .leaf))) .leaf)), [23, 23], [.tmp 4], [], [], true⟩
noncomputable def F24 : AFunc := ⟨codeOf Try.f24, (.seq none (.reg [4] []) (.seq none (.reg [5] []) (.seq none .leaf (.seq none (.sub (.loop [(0, false), (1, false), (5, true), (6, false), (7, false)] (.seq none .leaf (.sub (.sub (.seq none .leaf (.cond (.seq none (.reg [5, 52] []) .leaf) (.seq none .leaf (.cond (.seq none (.reg [5, 78] []) .leaf) (.seq none (.reg [5, 18] []) .leaf)))))))))) (.seq none (.reg [4, 87] []) .leaf))))), [23, 23], [.tmp 4], [], [], true⟩
noncomputable def F44 : AFunc := ⟨codeOf Try.f44, (.seq none .leaf (.seq none (.seq none .leaf (.sub (.loop [(0, false), (1, false), (5, false)] (.seq none .leaf (.seq none (.sub (.seq none .leaf (.sub (.loop [(0, false), (1, false), (5, false), (6, false)] .leaf)))) .leaf))))) .leaf)), [23, 23], [.tmp 4], [], [], true⟩
noncomputable def F15 : AFunc := ⟨codeOf Try.f15, (.seq none .leaf (.seq none (.seq none .leaf (.sub (.loop [(0, false), (3, false)] (.seq none .leaf (.seq none (.sub (.seq none .leaf (.seq none .leaf (.sub (.loop [(0, false), (3, false), (4, false)] .leaf))))) .leaf))))) .leaf)), [29], [.tmp 2], [], [], true⟩
noncomputable def F30 : AFunc := ⟨codeOf Try.f30, (.seq none (.reg [3, 4] []) (.seq none (.sub (.seq none .leaf (.cond (.seq none (.reg [4] []) .leaf) (.seq none .leaf (.cond (.seq none (.reg [4] []) .leaf) (.seq none .leaf (.cond (.seq none (.reg [4] []) .leaf) .leaf))))))) (.seq none (.reg [4] []) .leaf))), [23, 43], [.tmp 4, .tmp 5], [], [], true⟩
noncomputable def F33 : AFunc := ⟨codeOf Try.f33, (.seq none (.reg [6] []) (.seq none (.reg [8] []) (.seq none (.seq none .leaf (.sub (.loop [(0, false), (1, false), (2, false), (8, true), (9, false)] (.seq none .leaf (.seq none (.sub (.seq none .leaf (.seq none (.seq none .leaf (.cond (.seq none (.reg [6, 33] []) .leaf) .leaf)) (.reg [8, 34] [])))) .leaf))))) (.seq none (.reg [6, 41] []) .leaf)))), [23, 32, 3], [.tmp 6, .tmp 7], [], [], true⟩
noncomputable def F26 : AFunc := ⟨codeOf Try.f26, (.seq none (.reg [4] []) (.seq none (.reg [5] []) (.seq none (.seq none .leaf (.sub (.loop [(0, false), (1, false), (5, true), (6, false)] (.seq none .leaf (.seq none (.sub (.seq none .leaf (.cond (.reg [5, 27] []) .leaf))) .leaf))))) (.seq none (.reg [4, 34] []) .leaf)))), [23, 3], [.tmp 4], [], [], true⟩
noncomputable def F11 : AFunc := ⟨codeOf Try.f11, .leaf, [23], [.tmp 2], [], [], true⟩
noncomputable def F12 : AFunc := ⟨codeOf Try.f12, .leaf, [], [.tmp 0], [], [], true⟩
noncomputable def F3 : AFunc := ⟨codeOf Try.f3, .leaf, [23], [.tmp 2], [], [], true⟩
noncomputable def F4 : AFunc := ⟨codeOf Try.f4, .leaf, [23, 23], [.tmp 4], [], [], true⟩
noncomputable def F6 : AFunc := ⟨codeOf Try.f6, (.seq none (.reg [3] []) .leaf), [23, 43], [.tmp 4], [], [], true⟩
noncomputable def F7 : AFunc := ⟨codeOf Try.f7, .leaf, [23, 32, 3], [.tmp 6], [], [], true⟩
noncomputable def F9 : AFunc := ⟨codeOf Try.f9, .leaf, [23, 54], [.tmp 4], [], [], true⟩
noncomputable def F10 : AFunc := ⟨codeOf Try.f10, .leaf, [54], [.tmp 2], [], [], true⟩
noncomputable def F5 : AFunc := ⟨codeOf Try.f5, .leaf, [36, 3, 3, 3], [.tmp 8], [], [], true⟩
noncomputable def F8 : AFunc := ⟨codeOf Try.f8, (.seq none .leaf (.seq none .leaf (.seq none .leaf (.seq none .leaf (.seq none .leaf (.seq none (.seq none .leaf (.sub (.loop [(10, false), (11, false), (12, false), (13, false), (14, false)] .leaf))) .leaf)))))), [36, 3, 3, 3], [.tmp 8], [], [], true⟩
noncomputable def fnTab : List (Nat × (Sig × FnDef)) := [
  (8, (⟨[.one (.bool)], []⟩, .code F8)),
  (5, (⟨[.one (.bool)], []⟩, .code F5)),
  (10, (⟨[.one (.bool)], []⟩, .code F10)),
  (9, (⟨[.one (.bool)], []⟩, .code F9)),
  (7, (⟨[.one (.bool)], []⟩, .code F7)),
  (6, (⟨[.one (.bool)], []⟩, .code F6)),
  (4, (⟨[.one (.bool)], []⟩, .code F4)),
  (3, (⟨[.one (.bool)], []⟩, .code F3)),
  (12, (⟨[.one (.bool)], []⟩, .code F12)),
  (11, (⟨[.one (.bool)], []⟩, .code F11)),
  (26, (⟨[.one (.sl false 43)], []⟩, .code F26)),
  (33, (⟨[.one (.sl false 43), .one (.bool)], []⟩, .code F33)),
  (30, (⟨[.one (.sl false 43), .one (.int .i64)], []⟩, .code F30)),
  (15, (⟨[.one (.bool)], []⟩, .code F15)),
  (44, (⟨[.one (.bool)], []⟩, .code F44)),
  (24, (⟨[.one (.sl false 43)], []⟩, .code F24)),
  (20, (⟨[.one (.bool)], []⟩, .code F20)),
  (50, (⟨[.one (.bool)], []⟩, .code F50)),
  (18, (⟨[.one (.sl false 65)], []⟩, .code F18)),
  (32, (⟨[.one (.sl false 43), .one (.bool)], []⟩, .code F32)),
  (35, (⟨[.one (.sl false 43), .one (.int .i64), .one (.int .i64)], []⟩, .code F35)),
  (29, (⟨[.one (.sl false 43), .one (.int .i64)], []⟩, .code F29)),
  (23, (⟨[.one (.sl false 43)], []⟩, .code F23)),
  (53, (⟨[.one (.msl 43 1)], [[.deadp], [.arrp 43]]⟩, .code F53)),
  (17, (⟨[.one (.sl false 65)], []⟩, .code F17)),
  (21, (⟨[.one (.bool)], []⟩, .code F21)),
  (19, (⟨[.one (.bool)], []⟩, .code F19)),
  (47, (⟨[.one (.bool)], [[.sl false 43]]⟩, .code F47)),
  (73, (⟨[.one (.int .i64)], [[.sl false 43]]⟩, .code F73)),
  (48, (⟨[.one (.bool)], [[.sl false 43]]⟩, .code F48)),
  (56, (⟨[.one (.int .i64)], []⟩, .code F56)),
  (49, (⟨[.one (.int .i64), .one (.bool)], []⟩, .code F49)),
  (74, (⟨[.one (.int .i64), .one (.bool)], []⟩, .code F74)),
  (39, (⟨[.one (.sl true 43), .one (.int .i64), .one (.int .i64)], []⟩, .code F39)),
  (65, (⟨[.one (.sl true 43), .one (.int .i64), .one (.int .i64)], []⟩, .code F65)),
  (37, (⟨[.one (.sl true 43), .one (.int .i64), .one (.int .i64)], []⟩, .code F37)),
  (38, (⟨[.one (.sl false 5)], []⟩, .code F38)),
  (36, (⟨[.one (.sl true 5)], []⟩, .code F36)),
  (22, (⟨[.one (.bool)], []⟩, .code F22)),
  (14, (⟨[.one (.int .i64)], []⟩, .code F14)),
  (13, (⟨[.one (.int .i64)], []⟩, .code F13)),
  (75, (⟨[.one (.msl 43 2)], [[.deadp], [.arrp 43], [.arrp 43]]⟩, .prim (primIns 43))),
  (52, (⟨[.one (.msl 43 1)], [[.deadp], [.arrp 43]]⟩, .prim (primCln 43))),
  (31, (⟨[.one (.int .i64)], []⟩, .code F31)),
  (28, (⟨[.one (.bool)], []⟩, .code F28)),
  (27, (⟨[.one (.sl false 65)], []⟩, .code F27)),
  (16, (⟨[.one (.bool)], []⟩, .code F16)),
  (45, (⟨[.one (.sl false 65)], []⟩, .code F45)),
  (46, (⟨[.one (.int .i64)], []⟩, .code F46)),
  (57, (⟨[.one (.int .i64)], []⟩, .code F57)),
  (77, (⟨[.one (.int .i64), .one (.bool)], []⟩, .code F77)),
  (94, (⟨[.one (.int .i64), .one (.bool)], []⟩, .code F94)),
  (95, (⟨[.one (.int .i64)], []⟩, .code F95)),
  (25, (⟨[.one (.sl true 43)], []⟩, .code F25)),
  (55, (⟨[.agg [.int .i64, .int .i64, .int .i64, .sl true 61]], []⟩, .code F55)),
  (76, (⟨[.agg [.int .i64, .str, .str, .int .i64, .str]], []⟩, .code F76)),
  (93, (⟨[.one (.str)], []⟩, .code F93)),
  (54, (⟨[.one (.int .i64)], []⟩, .code F54)),
  (34, (⟨[.one (.int .i64)], []⟩, .code F34)),
  (86, (⟨[.agg [.int .i64, .int .i64, .int .i64, .sl true 61], .one (.int .i64), .one (.int .i64)], []⟩, .code F86)),
  (101, (⟨[.agg [.int .i64, .str, .str, .int .i64, .str], .one (.int .i64), .one (.int .i64)], []⟩, .code F101)),
  (100, (⟨[.one (.sl true 3), .one (.int .i64), .one (.int .i64)], []⟩, .code F100)),
  (61, (⟨[.agg [.int .i64, .int .i64, .int .i64, .sl true 61], .one (.int .i64), .one (.int .i64)], []⟩, .code F61)),
  (81, (⟨[.agg [.int .i64, .str, .str, .int .i64, .str]], [[.sl false 5, .int .i64, .int .i64]]⟩, .code F81)),
  (98, (⟨[.one (.int .i64)], [[.sl false 5, .int .i64, .int .i64]]⟩, .code F98)),
  (97, (⟨[.one (.str)], [[.sl false 5, .int .i64, .int .i64]]⟩, .code F97)),
  (80, (⟨[.one (.int .i64)], [[.sl false 5, .int .i64, .int .i64]]⟩, .code F80)),
  (96, (⟨[], [[.sl false 5, .int .i64, .int .i64]]⟩, .code F96)),
  (85, (⟨[.one (.int .i64), .one (.int .i64), .one (.int .i64)], []⟩, .code F85)),
  (106, (⟨[.one (.str), .one (.int .i64), .one (.int .i64)], []⟩, .code F106)),
  (104, (⟨[.one (.str), .one (.int .i64), .one (.int .i64)], []⟩, .code F104)),
  (107, (⟨[.one (.int .i64), .one (.int .i64), .one (.int .i64)], []⟩, .code F107)),
  (105, (⟨[.one (.int .i64), .one (.int .i64), .one (.int .i64)], []⟩, .code F105)),
  (64, (⟨[.one (.int .u64), .one (.int .i64), .one (.int .i64)], []⟩, .code F64)),
  (60, (⟨[.one (.int .u64), .one (.int .i64), .one (.int .i64)], []⟩, .code F60)),
  (63, (⟨[.one (.sl false 5)], []⟩, .code F63)),
  (62, (⟨[.one (.sl false 5)], []⟩, .code F62)),
  (59, (⟨[.one (.sl true 5)], []⟩, .code F59)),
  (84, (⟨[.one (.sl true 5)], []⟩, .code F84)),
  (79, (⟨[.one (.sl true 5)], []⟩, .code F79)),
  (99, (⟨[.one (.int .u64)], []⟩, .code F99)),
  (83, (⟨[.one (.sl true 5)], []⟩, .code F83)),
  (78, (⟨[.one (.sl true 5)], []⟩, .code F78)),
  (82, (⟨[.one (.sl true 5)], []⟩, .code F82)),
  (58, (⟨[.one (.sl true 5)], []⟩, .code F58)),
  (51, (⟨[.one (.bool)], []⟩, .code F51)),
  (43, (⟨[.one (.int .i64)], []⟩, .code F43)),
  (41, (⟨[.one (.int .i64)], []⟩, .code F41)),
  (68, (⟨[.one (.int .i64)], []⟩, .code F68)),
  (69, (⟨[.one (.int .i64)], []⟩, .code F69)),
  (90, (⟨[.one (.bool)], []⟩, .code F90)),
  (42, (⟨[.one (.int .i64)], []⟩, .code F42)),
  (40, (⟨[.one (.int .i64)], []⟩, .code F40)),
  (72, (⟨[.one (.bool)], []⟩, .code F72)),
  (67, (⟨[.one (.bool)], []⟩, .code F67)),
  (88, (⟨[.one (.bool)], []⟩, .code F88)),
  (102, (⟨[.one (.int .i64)], []⟩, .code F102)),
  (89, (⟨[.one (.bool)], []⟩, .code F89)),
  (71, (⟨[.one (.int .i64)], []⟩, .code F71)),
  (66, (⟨[.one (.int .i64)], []⟩, .code F66)),
  (87, (⟨[.one (.bool)], []⟩, .prim prim87)),
  (70, (⟨[.one (.bool)], []⟩, .code F70))]
noncomputable def E : Env := ⟨lookT tyTab, lookT fnTab⟩
def s70 : Go.Abs.Spec := fun args blk => match args, blk with
  | [.one (.int .i64 n)], [] => (true, ([.one (.bool (isClient n))], []))
  | _, _ => (false, ([], []))
def s87 : Go.Abs.Spec := fun args blk => match args, blk with
  | [.one (.str s)], [] => (true, ([.one (.bool (s.isEmpty))], []))
  | _, _ => (false, ([], []))
def s66 : Go.Abs.Spec := fun args blk => match args, blk with
  | [.agg [.int .i64 k1, .str o1, .str f1, .int .i64 n1, .str s1]], [] => (true, ([.one (.int .i64 (vEff k1 o1 f1 n1 s1))], []))
  | _, _ => (false, ([], []))
def s71 : Go.Abs.Spec := fun args blk => match args, blk with
  | [.agg [.int .i64 k1, .str o1, .str f1, .int .i64 n1, .str s1]], [] => (true, ([.one (.int .i64 (vEff k1 o1 f1 n1 s1))], []))
  | _, _ => (false, ([], []))
def s89 : Go.Abs.Spec := fun args blk => match args, blk with
  | [.agg [.int .i64 k1, .str o1, .str f1, .int .i64 n1, .str s1]], [] => (true, ([.one (.bool (k1 == 1))], []))
  | _, _ => (false, ([], []))
def s102 : Go.Abs.Spec := fun args blk => match args, blk with
  | [.one (.sl false 61 l), .one (.fn 89 [])], [] => ((decide (l.length < 4611686018427387904)), ([.one (.int .i64 (idxW l))], []))
  | _, _ => (false, ([], []))
def s88 : Go.Abs.Spec := fun args blk => match args, blk with
  | [.one (.sl false 61 l), .one (.fn 89 [])], [] => ((decide (l.length < 4611686018427387904)), ([.one (.bool (!(comm l)))], []))
  | _, _ => (false, ([], []))
def s67 : Go.Abs.Spec := fun args blk => match args, blk with
  | [.agg [.int .i64 cu, .int .i64 qu, .int .i64 tu, .sl false 61 eu]], [] => ((decide (eu.length < 4611686018427387904)), ([.one (.bool (comm eu))], []))
  | _, _ => (false, ([], []))
def s72 : Go.Abs.Spec := fun args blk => match args, blk with
  | [.agg [.int .i64 cu, .int .i64 qu, .int .i64 tu, .sl false 61 eu]], [] => ((decide (eu.length < 4611686018427387904)), ([.one (.bool (comm eu))], []))
  | _, _ => (false, ([], []))
def s40 : Go.Abs.Spec := fun args blk => match args, blk with
  | [.agg [.int .i64 cu, .int .i64 qu, .int .i64 tu, .sl false 61 eu]], [] => (true, ([.one (.int .i64 (vUpd cu qu tu eu))], []))
  | _, _ => (false, ([], []))
def s42 : Go.Abs.Spec := fun args blk => match args, blk with
  | [.agg [.int .i64 cu, .int .i64 qu, .int .i64 tu, .sl false 61 eu]], [] => (true, ([.one (.int .i64 (vUpd cu qu tu eu))], []))
  | _, _ => (false, ([], []))
def s90 : Go.Abs.Spec := fun args blk => match args, blk with
  | [.one (.int .i64 n)], [] => (true, ([.one (.bool false)], []))
  | _, _ => (false, ([], []))
def s69 : Go.Abs.Spec := fun args blk => match args, blk with
  | [.one (.int .i64 x), .one (.int .i64 y)], [] => (true, ([.one (.int .i64 (cmpI x y))], []))
  | _, _ => (false, ([], []))
def s68 : Go.Abs.Spec := fun args blk => match args, blk with
  | [.one (.sl false 3 l)], [] => ((decide (l.length < 4611686018427387904)), ([.one (.int .i64 (orI1 l))], []))
  | _, _ => (false, ([], []))
def s41 : Go.Abs.Spec := fun args blk => match args, blk with
  | [.agg [.int .i64 cu, .int .i64 qu, .int .i64 tu, .sl false 61 eu], .agg [.int .i64 cv, .int .i64 qv, .int .i64 tv, .sl false 61 ev]], [] => (true, ([.one (.int .i64 (cmpU cu qu cv qv))], []))
  | _, _ => (false, ([], []))
def s43 : Go.Abs.Spec := fun args blk => match args, blk with
  | [.agg [.int .i64 cu, .int .i64 qu, .int .i64 tu, .sl false 61 eu], .agg [.int .i64 cv, .int .i64 qv, .int .i64 tv, .sl false 61 ev]], [] => (true, ([.one (.int .i64 (cmpU cu qu cv qv))], []))
  | _, _ => (false, ([], []))
def s51 : Go.Abs.Spec := fun args blk => match args, blk with
  | [.agg [.int .i64 cu, .int .i64 qu, .int .i64 tu, .sl false 61 eu], .agg [.int .i64 cv, .int .i64 qv, .int .i64 tv, .sl false 61 ev]], [] => ((decide (eu.length < 4611686018427387904)), ([.one (.bool (eqU cu qu tu eu cv qv tv ev))], []))
  | _, _ => (false, ([], []))
def s58 : Go.Abs.Spec := fun args blk => match args, blk with
  | [.one (.sl false 5 x), .one (.int .u64 v)], [] => ((okEnc x v), ([.one (.sl true 5 (x ++ uenc v))], []))
  | [.one (.nils), .one (.int .u64 v)], [] => ((okU v), ([.one (.sl true 5 (uenc v))], []))
  | _, _ => (false, ([], []))
def s82 : Go.Abs.Spec := fun args blk => match args, blk with
  | [.one (.sl false 5 x), .one (.int .u64 v)], [] => ((okEnc x v), ([.one (.sl true 5 (x ++ uenc v))], []))
  | _, _ => (false, ([], []))
def s78 : Go.Abs.Spec := fun args blk => match args, blk with
  | [.one (.sl false 5 x), .one (.str s)], [] => ((okStr x s), ([.one (.sl true 5 (x ++ senc s))], []))
  | _, _ => (false, ([], []))
def s83 : Go.Abs.Spec := fun args blk => match args, blk with
  | [.one (.sl false 5 x), .one (.str s)], [] => ((okStr x s), ([.one (.sl true 5 (x ++ senc s))], []))
  | _, _ => (false, ([], []))
def s99 : Go.Abs.Spec := fun args blk => match args, blk with
  | [.one (.int .i64 v)], [] => ((okI v), ([.one (.int .u64 (zig v))], []))
  | _, _ => (false, ([], []))
def s79 : Go.Abs.Spec := fun args blk => match args, blk with
  | [.one (.sl false 5 x), .one (.int .i64 v)], [] => ((okLen x && okI v), ([.one (.sl true 5 (x ++ uenc (zig v)))], []))
  | _, _ => (false, ([], []))
def s84 : Go.Abs.Spec := fun args blk => match args, blk with
  | [.one (.sl false 5 x), .one (.int .i64 v)], [] => ((okLen x && okI v), ([.one (.sl true 5 (x ++ uenc (zig v)))], []))
  | _, _ => (false, ([], []))
def s59 : Go.Abs.Spec := fun args blk => match args, blk with
  | [.one (.sl false 5 x), .agg [.int .i64 cu, .int .i64 qu, .int .i64 tu, .sl false 61 eu]], [] => ((okApp x eu), ([.one (.sl true 5 (x ++ encU cu qu tu eu))], []))
  | [.one (.nils), .agg [.int .i64 cu, .int .i64 qu, .int .i64 tu, .sl false 61 eu]], [] => ((okApp [] eu), ([.one (.sl true 5 (encU cu qu tu eu))], []))
  | _, _ => (false, ([], []))
def s62 : Go.Abs.Spec := fun args blk => match args, blk with
  | [.one (.sl false 5 x), .one (.sl false 3 l)], [] => ((okNums x l), ([.one (.sl false 5 (x ++ encL l))], []))
  | _, _ => (false, ([], []))
def s63 : Go.Abs.Spec := fun args blk => match args, blk with
  | [.one (.sl false 5 x), .agg [.int .i64 cu, .int .i64 qu, .int .i64 tu, .sl false 61 eu]], [] => ((okApp x eu), ([.one (.sl false 5 (x ++ encU cu qu tu eu))], []))
  | [.one (.nils), .agg [.int .i64 cu, .int .i64 qu, .int .i64 tu, .sl false 61 eu]], [] => ((okApp [] eu), ([.one (.sl false 5 (encU cu qu tu eu))], []))
  | _, _ => (false, ([], []))
def s60 : Go.Abs.Spec := fun args blk => match args, blk with
  | [.one (.sl false 5 x)], [] => ((okRd x), ([.one (.int .u64 (udec x).1), .one (.int .i64 (udec x).2.1), .one (.int .i64 (udec x).2.2)], []))
  | _, _ => (false, ([], []))
def s64 : Go.Abs.Spec := fun args blk => match args, blk with
  | [.one (.sl false 5 x)], [] => ((okRd x), ([.one (.int .u64 (udec x).1), .one (.int .i64 (udec x).2.1), .one (.int .i64 (udec x).2.2)], []))
  | _, _ => (false, ([], []))
def s105 : Go.Abs.Spec := fun args blk => match args, blk with
  | [.one (.sl false 5 x)], [] => ((okRd x), ([.one (.int .i64 (idec x).1), .one (.int .i64 (idec x).2.1), .one (.int .i64 (idec x).2.2)], []))
  | _, _ => (false, ([], []))
def s107 : Go.Abs.Spec := fun args blk => match args, blk with
  | [.one (.sl false 5 x)], [] => ((okRd x), ([.one (.int .i64 (idec x).1), .one (.int .i64 (idec x).2.1), .one (.int .i64 (idec x).2.2)], []))
  | _, _ => (false, ([], []))
def s104 : Go.Abs.Spec := fun args blk => match args, blk with
  | [.one (.sl false 5 x)], [] => ((okRd x), ([.one (.str (sdec x).1), .one (.int .i64 (sdec x).2.1), .one (.int .i64 (sdec x).2.2)], []))
  | _, _ => (false, ([], []))
def s106 : Go.Abs.Spec := fun args blk => match args, blk with
  | [.one (.sl false 5 x)], [] => ((okRd x), ([.one (.str (sdec x).1), .one (.int .i64 (sdec x).2.1), .one (.int .i64 (sdec x).2.2)], []))
  | _, _ => (false, ([], []))
def s85 : Go.Abs.Spec := fun args blk => match args, blk with
  | [.one (.sl false 5 x)], [] => ((okRd x), ([.one (.int .i64 (rnum2 x).1), .one (.int .i64 (rnum2 x).2.1), .one (.int .i64 (rnum2 x).2.2)], []))
  | _, _ => (false, ([], []))
def s96 : Go.Abs.Spec := fun args blk => match args, blk with
  | [.one (.ptr 0 0), .one (.int .i64 n), .one (.int .i64 z)], [.var [.sl false 5 b, .int .i64 o, .int .i64 e]] => ((okTake o n), ([], [.var [.sl false 5 b, .int .i64 (o + n), .int .i64 z]]))
  | _, _ => (false, ([], []))
def s80 : Go.Abs.Spec := fun args blk => match args, blk with
  | [.one (.ptr 0 0)], [.var [.sl false 5 b, .int .i64 o, .int .i64 e]] => ((okAt b o), ([.one (.int .i64 (rnum b o e).1)], [.var [.sl false 5 b, .int .i64 (rnum b o e).2.1, .int .i64 (rnum b o e).2.2]]))
  | _, _ => (false, ([], []))
def s97 : Go.Abs.Spec := fun args blk => match args, blk with
  | [.one (.ptr 0 0)], [.var [.sl false 5 b, .int .i64 o, .int .i64 e]] => ((okAt b o), ([.one (.str (rtext b o e).1)], [.var [.sl false 5 b, .int .i64 (rtext b o e).2.1, .int .i64 (rtext b o e).2.2]]))
  | _, _ => (false, ([], []))
def s98 : Go.Abs.Spec := fun args blk => match args, blk with
  | [.one (.ptr 0 0)], [.var [.sl false 5 b, .int .i64 o, .int .i64 e]] => ((okAt b o), ([.one (.int .i64 (rint b o e).1)], [.var [.sl false 5 b, .int .i64 (rint b o e).2.1, .int .i64 (rint b o e).2.2]]))
  | _, _ => (false, ([], []))
def s81 : Go.Abs.Spec := fun args blk => match args, blk with
  | [.one (.ptr 0 0)], [.var [.sl false 5 b, .int .i64 o, .int .i64 e]] => ((okAt b o), ([.agg [.int .i64 (reff b o e).1.1, .str (reff b o e).1.2.1, .str (reff b o e).1.2.2.1, .int .i64 (reff b o e).1.2.2.2.1, .str (reff b o e).1.2.2.2.2]], [.var [.sl false 5 b, .int .i64 (reff b o e).2.1, .int .i64 (reff b o e).2.2]]))
  | _, _ => (false, ([], []))
def s61 : Go.Abs.Spec := fun args blk => match args, blk with
  | [.one (.sl false 5 x)], [] => ((okRd x), ([.agg [.int .i64 (decU x).1, .int .i64 (decU x).2.1, .int .i64 (decU x).2.2.1, .sl true 61 (decU x).2.2.2.1], .one (.int .i64 (decU x).2.2.2.2.1), .one (.int .i64 (decU x).2.2.2.2.2)], []))
  | _, _ => (false, ([], []))
def s100 : Go.Abs.Spec := fun args blk => match args, blk with
  | [.one (.sl false 5 x), .one (.int .i64 c)], [] => ((okRd x && decide (c ≤ 1000)), ([.one (.sl true 3 (rread x c).1), .one (.int .i64 (rread x c).2.1), .one (.int .i64 (rread x c).2.2)], []))
  | _, _ => (false, ([], []))
def s101 : Go.Abs.Spec := fun args blk => match args, blk with
  | [.one (.sl false 5 x)], [] => ((okRd x), ([.agg [.int .i64 (deff x).1.1, .str (deff x).1.2.1, .str (deff x).1.2.2.1, .int .i64 (deff x).1.2.2.2.1, .str (deff x).1.2.2.2.2], .one (.int .i64 (deff x).2.1), .one (.int .i64 (deff x).2.2)], []))
  | _, _ => (false, ([], []))
def s86 : Go.Abs.Spec := fun args blk => match args, blk with
  | [.one (.sl false 5 x)], [] => ((okRd x), ([.agg [.int .i64 (decU x).1, .int .i64 (decU x).2.1, .int .i64 (decU x).2.2.1, .sl true 61 (decU x).2.2.2.1], .one (.int .i64 (decU x).2.2.2.2.1), .one (.int .i64 (decU x).2.2.2.2.2)], []))
  | _, _ => (false, ([], []))
def s34 : Go.Abs.Spec := fun args blk => match args, blk with
  | [.one (.int .i64 n), .one (.int .i64 k)], [] => ((decide (k ≤ 4611686018427387904)), ([.one (.int .i64 (gIndex n k))], []))
  | _, _ => (false, ([], []))
def s54 : Go.Abs.Spec := fun args blk => match args, blk with
  | [.one (.int .i64 n), .one (.int .i64 b), .one (.int .i64 j)], [] => ((decide (2 ≤ b) && decide (j ≤ 9223372036854775807)), ([.one (.int .i64 (gDigit n b j))], []))
  | _, _ => (false, ([], []))
def s93 : Go.Abs.Spec := fun args blk => match args, blk with
  | [.one (.int .i64 n)], [] => (true, ([.one (.str (gName n))], []))
  | _, _ => (false, ([], []))
def s76 : Go.Abs.Spec := fun args blk => match args, blk with
  | [.one (.int .i64 n), .one (.bool w)], [] => (true, ([.agg [.int .i64 (gEff n w).1, .str (gEff n w).2.1, .str (gEff n w).2.2.1, .int .i64 (gEff n w).2.2.2.1, .str (gEff n w).2.2.2.2]], []))
  | _, _ => (false, ([], []))
def s55 : Go.Abs.Spec := fun args blk => match args, blk with
  | [.one (.int .i64 c), .one (.int .i64 q), .one (.int .i64 n)], [] => (true, ([.agg [.int .i64 c, .int .i64 q, .int .i64 (gTag n), .sl true 61 (gEffs n)]], []))
  | _, _ => (false, ([], []))
def s25 : Go.Abs.Spec := fun args blk => match args, blk with
  | [.one (.sl false 3 l)], [] => ((decide (l.length < 4611686018427387904)), ([.one (.sl true 43 (gUpds l))], []))
  | _, _ => (false, ([], []))
def s95 : Go.Abs.Spec := fun args blk => match args, blk with
  | [.agg [.int .i64 u, .int .i64 k], .one (.int .i64 a)], [] => (true, ([.one (.int .i64 (cmpI u a))], []))
  | _, _ => (false, ([], []))
def s94 : Go.Abs.Spec := fun args blk => match args, blk with
  | [.one (.sl false 65 v), .one (.int .i64 a), .one (.fn 95 [])], [] => ((okVec v), ([.one (.int .i64 (lowV v a : Int)), .one (.bool (hasV v a))], []))
  | _, _ => (false, ([], []))
def s77 : Go.Abs.Spec := fun args blk => match args, blk with
  | [.one (.sl false 65 v), .one (.int .i64 a)], [] => ((okVec v), ([.one (.int .i64 (lowV v a : Int)), .one (.bool (hasV v a))], []))
  | _, _ => (false, ([], []))
def s57 : Go.Abs.Spec := fun args blk => match args, blk with
  | [.one (.sl false 65 v), .one (.int .i64 a)], [] => ((okVec v), ([.one (.int .i64 (cntV v a))], []))
  | _, _ => (false, ([], []))
def s46 : Go.Abs.Spec := fun args blk => match args, blk with
  | [.one (.sl false 65 v), .one (.int .i64 a)], [] => ((okLn v), ([.one (.int .i64 (cntV v a))], []))
  | _, _ => (false, ([], []))
def s45 : Go.Abs.Spec := fun args blk => match args, blk with
  | [.one (.sl false 65 v), .one (.int .i64 a), .one (.int .i64 k)], [] => ((okEv v), ([.one (.sl false 65 (withV v a k))], []))
  | _, _ => (false, ([], []))
def s16 : Go.Abs.Spec := fun args blk => match args, blk with
  | [.one (.sl false 65 v), .one (.sl false 65 w)], [] => ((okLn v), ([.one (.bool (eqVec v w))], []))
  | _, _ => (false, ([], []))
def s27 : Go.Abs.Spec := fun args blk => match args, blk with
  | [.one (.sl false 65 v), .one (.sl false 65 w)], [] => ((okJn v w), ([.one (.sl false 65 (joinV v w))], []))
  | _, _ => (false, ([], []))
def s28 : Go.Abs.Spec := fun args blk => match args, blk with
  | [.one (.sl false 65 v), .one (.sl false 65 w)], [] => ((okLn v && okLn w), ([.one (.bool (leV v w))], []))
  | _, _ => (false, ([], []))
def s31 : Go.Abs.Spec := fun args blk => match args, blk with
  | [.one (.sl false 65 v)], [] => ((okLn v), ([.one (.int .i64 (vVec v))], []))
  | _, _ => (false, ([], []))
def s52 : Go.Abs.Spec := fun args blk => match args, blk with
  | [.one (.sl false 43 c)], [] => ((okCln c), ([.one (.msl 43 1 c.length)], [.dead, .arr 43 c]))
  | _, _ => (false, ([], []))
def s75 : Go.Abs.Spec := fun args blk => match args, blk with
  | [.one (.msl 43 0 n), .one (.int .i64 k), .one (.msl 43 1 m)], [.arr 43 x, .arr 43 y] => ((Nat.beq m y.length && okIns n k x y), ([.one (.msl 43 2 (x.length + y.length))], [.dead, .arr 43 y, .arr 43 (insL x y (Int.toNat k))]))
  | _, _ => (false, ([], []))
def s13 : Go.Abs.Spec := fun args blk => match args, blk with
  | [.one (.sl false 43 c)], [] => ((okLn c), ([.one (.int .i64 (vSt c))], []))
  | _, _ => (false, ([], []))
def s14 : Go.Abs.Spec := fun args blk => match args, blk with
  | [.one (.sl false 43 c)], [] => ((okLn c), ([.one (.int .i64 (vSt c))], []))
  | _, _ => (false, ([], []))
def s22 : Go.Abs.Spec := fun args blk => match args, blk with
  | [.one (.sl false 43 c), .one (.sl false 43 d)], [] => ((okRows c), ([.one (.bool (eqSt c d))], []))
  | _, _ => (false, ([], []))
def s36 : Go.Abs.Spec := fun args blk => match args, blk with
  | [.one (.sl false 5 x), .one (.sl false 43 c)], [] => ((okSApp x c), ([.one (.sl true 5 (x ++ encS c))], []))
  | [.one (.nils), .one (.sl false 43 c)], [] => ((okSApp [] c), ([.one (.sl true 5 (encS c))], []))
  | _, _ => (false, ([], []))
def s38 : Go.Abs.Spec := fun args blk => match args, blk with
  | [.one (.sl false 5 x), .one (.sl false 43 c)], [] => ((okSApp x c), ([.one (.sl false 5 (x ++ encS c))], []))
  | [.one (.nils), .one (.sl false 43 c)], [] => ((okSApp [] c), ([.one (.sl false 5 (encS c))], []))
  | _, _ => (false, ([], []))
def s37 : Go.Abs.Spec := fun args blk => match args, blk with
  | [.one (.sl false 5 x)], [] => ((okRd x), ([.one (.sl true 43 (decS x).1), .one (.int .i64 (decS x).2.1), .one (.int .i64 (decS x).2.2)], []))
  | _, _ => (false, ([], []))
def s65 : Go.Abs.Spec := fun args blk => match args, blk with
  | [.one (.sl false 5 x)], [] => ((okRd x), ([.one (.sl true 43 (decL x).1), .one (.int .i64 (decL x).2.1), .one (.int .i64 (decL x).2.2)], []))
  | _, _ => (false, ([], []))
def s39 : Go.Abs.Spec := fun args blk => match args, blk with
  | [.one (.sl false 5 x)], [] => ((okRd x), ([.one (.sl true 43 (decS x).1), .one (.int .i64 (decS x).2.1), .one (.int .i64 (decS x).2.2)], []))
  | _, _ => (false, ([], []))
def s74 : Go.Abs.Spec := fun args blk => match args, blk with
  | [.one (.sl false 43 c), .agg [.int .i64 ap, .int .i64 np, .int .i64 tp, .sl false 61 ep], .one (.fn 41 [])], [] => ((okSrt c), ([.one (.int .i64 (lowK c (urow ap np tp ep) : Int)), .one (.bool (hasK c (urow ap np tp ep)))], []))
  | [.one (.msl 43 0 n), .agg [.int .i64 ap, .int .i64 np, .int .i64 tp, .sl false 61 ep], .one (.fn 41 [])], [.arr 43 c] => ((okM n c), ([.one (.int .i64 (lowK c (urow ap np tp ep) : Int)), .one (.bool (hasK c (urow ap np tp ep)))], [.arr 43 c]))
  | _, _ => (false, ([], []))
def s49 : Go.Abs.Spec := fun args blk => match args, blk with
  | [.one (.sl false 43 c), .agg [.int .i64 ap, .int .i64 np, .int .i64 tp, .sl false 61 ep]], [] => ((okSrt c), ([.one (.int .i64 (lowK c (urow ap np tp ep) : Int)), .one (.bool (hasK c (urow ap np tp ep)))], []))
  | [.one (.msl 43 0 n), .agg [.int .i64 ap, .int .i64 np, .int .i64 tp, .sl false 61 ep]], [.arr 43 c] => ((okM n c), ([.one (.int .i64 (lowK c (urow ap np tp ep) : Int)), .one (.bool (hasK c (urow ap np tp ep)))], [.arr 43 c]))
  | _, _ => (false, ([], []))
def s56 : Go.Abs.Spec := fun args blk => match args, blk with
  | [.one (.sl false 43 c), .one (.int .i64 a)], [] => ((okLn c), ([.one (.int .i64 (cntS c a))], []))
  | [.one (.msl 43 0 n), .one (.int .i64 a)], [.arr 43 c] => ((okMl n c), ([.one (.int .i64 (cntS c a))], [.arr 43 c]))
  | _, _ => (false, ([], []))
def s48 : Go.Abs.Spec := fun args blk => match args, blk with
  | [.agg [.int .i64 ap, .int .i64 np, .int .i64 tp, .sl false 61 ep], .one (.ptr 0 0)], [.var [.sl false 43 d]] => ((okSrt d), ([.one (.bool (!(hasK d (urow ap np tp ep))))], [.var [.sl false 43 d]]))
  | _, _ => (false, ([], []))
def s73 : Go.Abs.Spec := fun args blk => match args, blk with
  | [.one (.sl false 43 c), .one (.fn 48 [.ptr 0 0])], [.var [.sl false 43 d]] => ((okLn c && okSrt d), ([.one (.int .i64 (idxN d c))], [.var [.sl false 43 d]]))
  | _, _ => (false, ([], []))
def s47 : Go.Abs.Spec := fun args blk => match args, blk with
  | [.one (.sl false 43 c), .one (.fn 48 [.ptr 0 0])], [.var [.sl false 43 d]] => ((okLn c && okSrt d), ([.one (.bool (!(contK d c)))], [.var [.sl false 43 d]]))
  | _, _ => (false, ([], []))
def s19 : Go.Abs.Spec := fun args blk => match args, blk with
  | [.one (.sl false 43 c), .one (.sl false 43 d)], [] => ((okSrt c && okLn d), ([.one (.bool (contK c d))], []))
  | _, _ => (false, ([], []))
def s21 : Go.Abs.Spec := fun args blk => match args, blk with
  | [.one (.sl false 43 c), .one (.sl false 43 d)], [] => ((okSrt c && okSrt d), ([.one (.bool (contK c d && contK d c))], []))
  | _, _ => (false, ([], []))
def s17 : Go.Abs.Spec := fun args blk => match args, blk with
  | [.one (.sl false 43 c)], [] => ((okLn c), ([.one (.sl false 65 (vecK c))], []))
  | _, _ => (false, ([], []))
def s53 : Go.Abs.Spec := fun args blk => match args, blk with
  | [.one (.msl 43 0 n), .agg [.int .i64 ap, .int .i64 np, .int .i64 tp, .sl false 61 ep]], [.arr 43 c] => ((okM n c && okEf ep), ([.one (.msl 43 1 (c.length + 1))], [.dead, .arr 43 (insA c (urow ap np tp ep))]))
  | _, _ => (false, ([], []))
def s23 : Go.Abs.Spec := fun args blk => match args, blk with
  | [.one (.sl false 43 c), .one (.sl false 43 d)], [] => ((okUn c d), ([.one (.sl false 43 (uniK c d))], []))
  | _, _ => (false, ([], []))
def s29 : Go.Abs.Spec := fun args blk => match args, blk with
  | [.one (.sl false 43 c), .agg [.int .i64 ap, .int .i64 np, .int .i64 tp, .sl false 61 ep]], [] => ((okCl c && okEf ep), ([.one (.sl false 43 (addS c ap np tp ep).1), .one (.int .i64 (addS c ap np tp ep).2)], []))
  | _, _ => (false, ([], []))
def s35 : Go.Abs.Spec := fun args blk => match args, blk with
  | [.one (.sl false 43 c), .one (.sl false 43 d)], [] => ((okMg c d), ([.one (.sl false 43 (mrgS c d).1), .one (.int .i64 (mrgS c d).2.1), .one (.int .i64 (mrgS c d).2.2)], []))
  | _, _ => (false, ([], []))
def s32 : Go.Abs.Spec := fun args blk => match args, blk with
  | [.one (.sl false 43 c), .one (.sl false 65 v), .one (.int .i64 k)], [] => ((okCl c && okVec v), ([.one (.sl false 43 (beyS c v k).1), .one (.bool (beyS c v k).2)], []))
  | _, _ => (false, ([], []))
def s18 : Go.Abs.Spec := fun args blk => match args, blk with
  | [.one (.sl false 43 c)], [] => ((okLn c), ([.one (.sl false 65 (vecR c))], []))
  | _, _ => (false, ([], []))
def s50 : Go.Abs.Spec := fun args blk => match args, blk with
  | [.one (.sl false 43 c), .agg [.int .i64 ap, .int .i64 np, .int .i64 tp, .sl false 61 ep]], [] => ((okLn c), ([.one (.bool (hasK c (urow ap np tp ep)))], []))
  | _, _ => (false, ([], []))
def s20 : Go.Abs.Spec := fun args blk => match args, blk with
  | [.one (.sl false 43 c), .one (.sl false 43 d)], [] => ((okLn c && okLn d), ([.one (.bool (contK c d))], []))
  | _, _ => (false, ([], []))
def s24 : Go.Abs.Spec := fun args blk => match args, blk with
  | [.one (.sl false 43 c), .one (.sl false 43 d)], [] => ((okCf c && okCf d), ([.one (.sl false 43 (mrgK c d))], []))
  | _, _ => (false, ([], []))
def s44 : Go.Abs.Spec := fun args blk => match args, blk with
  | [.one (.sl false 43 c), .one (.sl false 43 d)], [] => ((okRows c && okLn d), ([.one (.bool (agrS c d))], []))
  | _, _ => (false, ([], []))
def s15 : Go.Abs.Spec := fun args blk => match args, blk with
  | [.one (.sl false 23 l)], [] => ((okSl l), ([.one (.bool (validSs l))], []))
  | _, _ => (false, ([], []))
def s30 : Go.Abs.Spec := fun args blk => match args, blk with
  | [.one (.sl false 43 c), .agg [.int .i64 ap, .int .i64 np, .int .i64 tp, .sl false 61 ep]], [] => ((okCf c), ([.one (.sl false 43 (addR c ap np tp ep).1), .one (.int .i64 (addR c ap np tp ep).2)], []))
  | _, _ => (false, ([], []))
def s33 : Go.Abs.Spec := fun args blk => match args, blk with
  | [.one (.sl false 43 c), .one (.sl false 65 v), .one (.int .i64 k)], [] => ((okCf c && okLn v), ([.one (.sl false 43 (beyR c v k).1), .one (.bool (beyR c v k).2)], []))
  | _, _ => (false, ([], []))
def s26 : Go.Abs.Spec := fun args blk => match args, blk with
  | [.one (.sl false 43 c), .one (.int .i64 k)], [] => ((okCf c), ([.one (.sl false 43 (gSome c k))], []))
  | _, _ => (false, ([], []))
def s11 : Go.Abs.Spec := fun args blk => match args, blk with
  | [.one (.sl false 43 c)], [] => ((decide (c.length < 9223372036854775808)), ([.one (.bool (decide (c.length ≤ 60)))], []))
  | _, _ => (false, ([], []))
def s12 : Go.Abs.Spec := fun args blk => match args, blk with
  | [], [] => (true, ([.one (.bool true)], []))
  | _, _ => (false, ([], []))
def s3 : Go.Abs.Spec := fun args blk => match args, blk with
  | [.one (.sl false 43 c)], [] => ((decide (c.length < 9223372036854775808)), ([.one (.bool true)], []))
  | _, _ => (false, ([], []))
def s4 : Go.Abs.Spec := fun args blk => match args, blk with
  | [.one (.sl false 43 c), .one (.sl false 43 d)], [] => ((okArg c && okArg d), ([.one (.bool true)], []))
  | _, _ => (false, ([], []))
def s6 : Go.Abs.Spec := fun args blk => match args, blk with
  | [.one (.sl false 43 c), .agg [.int .i64 ap, .int .i64 np, .int .i64 tp, .sl false 61 ep]], [] => ((okArg c && okArgE ep), ([.one (.bool true)], []))
  | _, _ => (false, ([], []))
def s7 : Go.Abs.Spec := fun args blk => match args, blk with
  | [.one (.sl false 43 c), .one (.sl false 65 v), .one (.int .i64 k)], [] => ((okArg c && okArgV v), ([.one (.bool true)], []))
  | _, _ => (false, ([], []))
def s9 : Go.Abs.Spec := fun args blk => match args, blk with
  | [.one (.sl false 43 c), .one (.sl false 5 x)], [] => ((okArg c && okB x), ([.one (.bool true)], []))
  | _, _ => (false, ([], []))
def s10 : Go.Abs.Spec := fun args blk => match args, blk with
  | [.one (.sl false 5 x)], [] => ((okB x), ([.one (.bool true)], []))
  | _, _ => (false, ([], []))
def s5 : Go.Abs.Spec := fun args blk => match args, blk with
  | [.one (.sl false 3 l), .one (.int .i64 x), .one (.int .i64 y), .one (.int .i64 z)], [] => ((decide (l.length < 4611686018427387904)), ([.one (.bool true)], []))
  | _, _ => (false, ([], []))
def s8 : Go.Abs.Spec := fun args blk => match args, blk with
  | [.one (.sl false 3 l), .one (.int .i64 x), .one (.int .i64 y), .one (.int .i64 k)], [] => ((decide (l.length < 4611686018427387904)), ([.one (.bool true)], []))
  | _, _ => (false, ([], []))
def L : List (Nat × Go.Abs.Spec) := []
def L70 : List (Nat × Go.Abs.Spec) := (70, s70) :: L
def L87 : List (Nat × Go.Abs.Spec) := (87, s87) :: L70
def L66 : List (Nat × Go.Abs.Spec) := (66, s66) :: L87
def L71 : List (Nat × Go.Abs.Spec) := (71, s71) :: L66
def L89 : List (Nat × Go.Abs.Spec) := (89, s89) :: L71
def L102 : List (Nat × Go.Abs.Spec) := (102, s102) :: L89
def L88 : List (Nat × Go.Abs.Spec) := (88, s88) :: L102
def L67 : List (Nat × Go.Abs.Spec) := (67, s67) :: L88
def L72 : List (Nat × Go.Abs.Spec) := (72, s72) :: L67
def L40 : List (Nat × Go.Abs.Spec) := (40, s40) :: L72
def L42 : List (Nat × Go.Abs.Spec) := (42, s42) :: L40
def L90 : List (Nat × Go.Abs.Spec) := (90, s90) :: L42
def L69 : List (Nat × Go.Abs.Spec) := (69, s69) :: L90
def L68 : List (Nat × Go.Abs.Spec) := (68, s68) :: L69
def L41 : List (Nat × Go.Abs.Spec) := (41, s41) :: L68
def L43 : List (Nat × Go.Abs.Spec) := (43, s43) :: L41
def L51 : List (Nat × Go.Abs.Spec) := (51, s51) :: L43
def L58 : List (Nat × Go.Abs.Spec) := (58, s58) :: L51
def L82 : List (Nat × Go.Abs.Spec) := (82, s82) :: L58
def L78 : List (Nat × Go.Abs.Spec) := (78, s78) :: L82
def L83 : List (Nat × Go.Abs.Spec) := (83, s83) :: L78
def L99 : List (Nat × Go.Abs.Spec) := (99, s99) :: L83
def L79 : List (Nat × Go.Abs.Spec) := (79, s79) :: L99
def L84 : List (Nat × Go.Abs.Spec) := (84, s84) :: L79
def L59 : List (Nat × Go.Abs.Spec) := (59, s59) :: L84
def L62 : List (Nat × Go.Abs.Spec) := (62, s62) :: L59
def L63 : List (Nat × Go.Abs.Spec) := (63, s63) :: L62
def L60 : List (Nat × Go.Abs.Spec) := (60, s60) :: L63
def L64 : List (Nat × Go.Abs.Spec) := (64, s64) :: L60
def L105 : List (Nat × Go.Abs.Spec) := (105, s105) :: L64
def L107 : List (Nat × Go.Abs.Spec) := (107, s107) :: L105
def L104 : List (Nat × Go.Abs.Spec) := (104, s104) :: L107
def L106 : List (Nat × Go.Abs.Spec) := (106, s106) :: L104
def L85 : List (Nat × Go.Abs.Spec) := (85, s85) :: L106
def L96 : List (Nat × Go.Abs.Spec) := (96, s96) :: L85
def L80 : List (Nat × Go.Abs.Spec) := (80, s80) :: L96
def L97 : List (Nat × Go.Abs.Spec) := (97, s97) :: L80
def L98 : List (Nat × Go.Abs.Spec) := (98, s98) :: L97
def L81 : List (Nat × Go.Abs.Spec) := (81, s81) :: L98
def L61 : List (Nat × Go.Abs.Spec) := (61, s61) :: L81
def L100 : List (Nat × Go.Abs.Spec) := (100, s100) :: L61
def L101 : List (Nat × Go.Abs.Spec) := (101, s101) :: L100
def L86 : List (Nat × Go.Abs.Spec) := (86, s86) :: L101
def L34 : List (Nat × Go.Abs.Spec) := (34, s34) :: L86
def L54 : List (Nat × Go.Abs.Spec) := (54, s54) :: L34
def L93 : List (Nat × Go.Abs.Spec) := (93, s93) :: L54
def L76 : List (Nat × Go.Abs.Spec) := (76, s76) :: L93
def L55 : List (Nat × Go.Abs.Spec) := (55, s55) :: L76
def L25 : List (Nat × Go.Abs.Spec) := (25, s25) :: L55
def L95 : List (Nat × Go.Abs.Spec) := (95, s95) :: L25
def L94 : List (Nat × Go.Abs.Spec) := (94, s94) :: L95
def L77 : List (Nat × Go.Abs.Spec) := (77, s77) :: L94
def L57 : List (Nat × Go.Abs.Spec) := (57, s57) :: L77
def L46 : List (Nat × Go.Abs.Spec) := (46, s46) :: L57
def L45 : List (Nat × Go.Abs.Spec) := (45, s45) :: L46
def L16 : List (Nat × Go.Abs.Spec) := (16, s16) :: L45
def L27 : List (Nat × Go.Abs.Spec) := (27, s27) :: L16
def L28 : List (Nat × Go.Abs.Spec) := (28, s28) :: L27
def L31 : List (Nat × Go.Abs.Spec) := (31, s31) :: L28
def L52 : List (Nat × Go.Abs.Spec) := (52, s52) :: L31
def L75 : List (Nat × Go.Abs.Spec) := (75, s75) :: L52
def L13 : List (Nat × Go.Abs.Spec) := (13, s13) :: L75
def L14 : List (Nat × Go.Abs.Spec) := (14, s14) :: L13
def L22 : List (Nat × Go.Abs.Spec) := (22, s22) :: L14
def L36 : List (Nat × Go.Abs.Spec) := (36, s36) :: L22
def L38 : List (Nat × Go.Abs.Spec) := (38, s38) :: L36
def L37 : List (Nat × Go.Abs.Spec) := (37, s37) :: L38
def L65 : List (Nat × Go.Abs.Spec) := (65, s65) :: L37
def L39 : List (Nat × Go.Abs.Spec) := (39, s39) :: L65
def L74 : List (Nat × Go.Abs.Spec) := (74, s74) :: L39
def L49 : List (Nat × Go.Abs.Spec) := (49, s49) :: L74
def L56 : List (Nat × Go.Abs.Spec) := (56, s56) :: L49
def L48 : List (Nat × Go.Abs.Spec) := (48, s48) :: L56
def L73 : List (Nat × Go.Abs.Spec) := (73, s73) :: L48
def L47 : List (Nat × Go.Abs.Spec) := (47, s47) :: L73
def L19 : List (Nat × Go.Abs.Spec) := (19, s19) :: L47
def L21 : List (Nat × Go.Abs.Spec) := (21, s21) :: L19
def L17 : List (Nat × Go.Abs.Spec) := (17, s17) :: L21
def L53 : List (Nat × Go.Abs.Spec) := (53, s53) :: L17
def L23 : List (Nat × Go.Abs.Spec) := (23, s23) :: L53
def L29 : List (Nat × Go.Abs.Spec) := (29, s29) :: L23
def L35 : List (Nat × Go.Abs.Spec) := (35, s35) :: L29
def L32 : List (Nat × Go.Abs.Spec) := (32, s32) :: L35
def L18 : List (Nat × Go.Abs.Spec) := (18, s18) :: L32
def L50 : List (Nat × Go.Abs.Spec) := (50, s50) :: L18
def L20 : List (Nat × Go.Abs.Spec) := (20, s20) :: L50
def L24 : List (Nat × Go.Abs.Spec) := (24, s24) :: L20
def L44 : List (Nat × Go.Abs.Spec) := (44, s44) :: L24
def L15 : List (Nat × Go.Abs.Spec) := (15, s15) :: L44
def L30 : List (Nat × Go.Abs.Spec) := (30, s30) :: L15
def L33 : List (Nat × Go.Abs.Spec) := (33, s33) :: L30
def L26 : List (Nat × Go.Abs.Spec) := (26, s26) :: L33
def L11 : List (Nat × Go.Abs.Spec) := (11, s11) :: L26
def L12 : List (Nat × Go.Abs.Spec) := (12, s12) :: L11
def L3 : List (Nat × Go.Abs.Spec) := (3, s3) :: L12
def L4 : List (Nat × Go.Abs.Spec) := (4, s4) :: L3
def L6 : List (Nat × Go.Abs.Spec) := (6, s6) :: L4
def L7 : List (Nat × Go.Abs.Spec) := (7, s7) :: L6
def L9 : List (Nat × Go.Abs.Spec) := (9, s9) :: L7
def L10 : List (Nat × Go.Abs.Spec) := (10, s10) :: L9
def L5 : List (Nat × Go.Abs.Spec) := (5, s5) :: L10
def L8 : List (Nat × Go.Abs.Spec) := (8, s8) :: L5
theorem tabs : tabB Try.prog E tyTab = true := by kernel_rfl
theorem good : Go.Abs.Good Try.prog E := good_of (l := tyTab) rfl tabs

end Go.Proofs.Ytkfniijfenkocaa
