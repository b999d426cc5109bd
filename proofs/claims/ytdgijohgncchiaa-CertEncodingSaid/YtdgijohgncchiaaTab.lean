/-
  The tables of this seat: types, functions with their notes, contracts. Printed by a program of our own.
-/
import Derived.Test.YtdgijohgncchiaaA28
import Derived.Test.YtdgijohgncchiaaDefs
import Derived.Test.YtdgijohgncchiaaProg
namespace Go.Proofs.Ytdgijohgncchiaa
open Go.Abs

def tyTab : List (Nat × Ty) := [
  (3, ⟨.int .i64, 1, 8, [.int .i64], false⟩),
  (4, ⟨.bool, 1, 1, [.bool], false⟩),
  (5, ⟨.int .u8, 1, 1, [.int .u8], false⟩),
  (9, ⟨.str, 1, 16, [.str], false⟩),
  (22, ⟨.slice 53, 1, 24, [.slice 53], false⟩),
  (23, ⟨.slice 53, 1, 24, [.slice 53], false⟩),
  (25, ⟨.struct [(0, 23), (1, 23)], 2, 48, [.slice 53, .slice 53], false⟩),
  (27, ⟨.int .i64, 1, 8, [.int .i64], false⟩),
  (31, ⟨.slice 25, 1, 24, [.slice 25], false⟩),
  (36, ⟨.slice 3, 1, 24, [.slice 3], false⟩),
  (42, ⟨.slice 5, 1, 24, [.slice 5], false⟩),
  (48, ⟨.struct [(0, 3), (1, 3), (2, 3)], 3, 24, [.int .i64, .int .i64, .int .i64], true⟩),
  (50, ⟨.struct [(0, 3), (1, 3), (2, 3), (3, 3), (4, 48)], 7, 56, [.int .i64, .int .i64, .int .i64, .int .i64, .int .i64, .int .i64, .int .i64], true⟩),
  (51, ⟨.slice 50, 1, 24, [.slice 50], false⟩),
  (53, ⟨.struct [(0, 3), (1, 3), (2, 51)], 3, 40, [.int .i64, .int .i64, .slice 50], false⟩),
  (54, ⟨.slice 23, 1, 24, [.slice 23], false⟩),
  (67, ⟨.slice 69, 1, 24, [.slice 69], false⟩),
  (69, ⟨.struct [(0, 3), (1, 3)], 2, 16, [.int .i64, .int .i64], false⟩),
  (72, ⟨.ptr 23, 1, 8, [.ptr], false⟩),
  (73, ⟨.slice 72, 1, 24, [.slice 72], false⟩),
  (86, ⟨.int .u64, 1, 8, [.int .u64], false⟩),
  (105, ⟨.struct [(0, 42), (1, 3), (2, 27)], 3, 40, [.slice 5, .int .i64, .int .i64], false⟩),
  (107, ⟨.ptr 3, 1, 8, [.ptr], false⟩),
  (108, ⟨.slice 107, 1, 24, [.slice 107], false⟩),
  (109, ⟨.int .u64, 1, 8, [.int .u64], false⟩),
  (114, ⟨.ptr 105, 1, 8, [.ptr], false⟩)]

noncomputable def codeOf (f : Func) : Code := match f.body with | some c => c | none => .skip
noncomputable def F90 : AFunc := ⟨codeOf Try.f90, .leaf, [3, 3, 3, 4], [.tmp 8], [], [], true⟩
noncomputable def F91 : AFunc := ⟨codeOf Try.f91, .leaf, [48], [.tmp 2], [], [], true⟩
noncomputable def F93 : AFunc := ⟨codeOf Try.f93, .leaf, [3], [.tmp 2], [], [], true⟩
noncomputable def F81 : AFunc := ⟨codeOf Try.f81, .leaf, [3], [.tmp 2], [], [], true⟩
noncomputable def F94 : AFunc := ⟨codeOf Try.f94, .leaf, [48], [.tmp 2], [], [], true⟩
noncomputable def F76 : AFunc := ⟨codeOf Try.f76, .leaf, [50], [.tmp 2], [], [], true⟩
noncomputable def F82 : AFunc := ⟨codeOf Try.f82, (.seq none .leaf (.seq none .leaf (.seq (some []) (.sub (.seq (some [(1, false), (3, false), (4, false), (5, false), (6, false), (19, false)]) .leaf (.cond .leaf (.seq (some [(1, false), (3, false), (4, false), (5, false), (6, false), (34, false)]) .leaf (.cond .leaf (.seq (some [(1, false), (3, false), (4, false), (5, false), (6, false), (51, false)]) .leaf (.cond .leaf (.seq (some [(1, false), (6, false), (77, false)]) .leaf .leaf)))))))) .leaf))), [50], [.tmp 2], [], [], true⟩
noncomputable def F53 : AFunc := ⟨codeOf Try.f53, (.seq none (.reg [1] []) (.seq none .leaf (.seq none (.seq none .leaf (.sub (.loop [(1, true), (38, false), (39, false), (40, false)] (.seq none .leaf (.seq none .leaf (.seq none (.sub (.seq none .leaf (.seq none .leaf (.seq none .leaf (.sub (.loop [(1, true), (4, false), (38, false), (39, false), (40, false), (53, false), (54, false), (55, false)] .leaf)))))) .leaf)))))) .leaf))), [53], [.tmp 2], [], [], true⟩
noncomputable def F58 : AFunc := ⟨codeOf Try.f58, (.seq none (.reg [1] []) (.seq (some [(1, true)]) (.sub (.seq (some [(1, true), (6, false)]) .leaf .leaf)) (.seq (some []) (.seq none .leaf (.sub (.loop [(1, true), (3, false)] (.seq (some [(1, true), (3, false)]) .leaf (.seq (some [(1, true), (3, false)]) (.sub (.seq (some [(1, true), (3, false)]) .leaf (.seq none .leaf (.sub (.loop [(1, true), (3, false), (5, false)] (.seq (some [(1, true), (3, false), (5, false)]) .leaf (.seq (some [(1, true), (3, false), (5, false)]) (.sub (.seq (some [(1, true), (3, false), (5, false), (79, false)]) .leaf .leaf)) .leaf))))))) .leaf))))) .leaf))), [53], [.tmp 2], [], [], true⟩
noncomputable def F92 : AFunc := ⟨codeOf Try.f92, .leaf, [3], [.tmp 2], [], [], true⟩
noncomputable def F78 : AFunc := ⟨codeOf Try.f78, .leaf, [3, 3], [.tmp 4], [], [], true⟩
noncomputable def F77 : AFunc := ⟨codeOf Try.f77, (.seq none .leaf (.seq none .leaf (.seq none (.seq none .leaf (.sub (.loop [(3, false), (6, false), (7, false), (8, false)] .leaf))) .leaf))), [36], [.tmp 2], [], [], true⟩
noncomputable def F54 : AFunc := ⟨codeOf Try.f54, (.seq none (.reg [2, 3] []) .leaf), [53, 53], [.tmp 4], [], [], true⟩
noncomputable def F59 : AFunc := ⟨codeOf Try.f59, (.seq none (.reg [2, 3] []) .leaf), [53, 53], [.tmp 4], [], [], true⟩
noncomputable def F40 : AFunc := ⟨codeOf Try.f40, (.seq none (.reg [2, 3] []) (.seq none .leaf (.seq none (.seq none .leaf (.sub (.loop [(2, true), (3, true), (5, false)] .leaf))) .leaf))), [53, 53], [.tmp 4], [], [], true⟩
noncomputable def F72 : AFunc := ⟨codeOf Try.f72, (.seq none (.reg [4] []) (.seq none (.reg [5] []) (.seq none (.sub (.loop [(0, true), (1, false), (5, true)] (.seq none .leaf (.sub (.seq none (.reg [5, 8] []) .leaf))))) (.seq none (.reg [5, 16] []) (.seq none (.reg [4, 21, 26] []) .leaf))))), [42, 86], [.tmp 4], [], [0], true⟩
noncomputable def F89 : AFunc := ⟨codeOf Try.f89, (.seq none (.reg [4] []) (.seq none (.reg [5] []) (.seq none (.sub (.loop [(1, false), (5, true)] (.seq none .leaf (.sub (.seq none (.reg [5, 11] []) .leaf))))) (.seq none (.reg [4, 20] []) .leaf)))), [42, 86], [.tmp 4], [], [0], true⟩
noncomputable def F68 : AFunc := ⟨codeOf Try.f68, (.seq none .leaf (.scope [(0, false), (5, false), (6, false)] .leaf .leaf)), [42], [.tmp 2, .tmp 3, .tmp 4], [], [], true⟩
noncomputable def F70 : AFunc := ⟨codeOf Try.f70, (.seq none .leaf (.seq none .leaf (.seq none (.seq none .leaf (.sub (.loop [(0, false), (5, false), (6, false)] .leaf))) .leaf))), [42], [.tmp 2, .tmp 3, .tmp 4], [], [], true⟩
noncomputable def F87 : AFunc := ⟨codeOf Try.f87, .leaf, [114], [.tmp 2], [], [], true⟩
noncomputable def F73 : AFunc := ⟨codeOf Try.f73, (.seq none (.reg [3, 4] []) (.seq none (.reg [5] []) (.seq none (.seq none .leaf (.sub (.loop [(0, true), (5, true), (20, false), (21, false), (22, false)] (.seq none .leaf (.seq none .leaf (.seq none (.sub (.seq none .leaf (.reg [5, 26] []))) .leaf)))))) (.seq none .leaf (.seq none (.seq none .leaf (.sub (.loop [(0, true), (8, false), (47, false), (48, false), (49, false)] .leaf))) (.seq none (.reg [4, 58, 63] []) .leaf)))))), [42, 53], [.tmp 4], [], [0], true⟩
noncomputable def F69 : AFunc := ⟨codeOf Try.f69, (.seq none .leaf (.seq none (.reg [12, 13] []) (.seq none (.reg [15] []) (.seq none .leaf (.seq none .leaf (.seq none .leaf (.seq none (.seq none .leaf (.sub (.loop [(2, false), (5, false), (6, false), (7, false), (8, false)] (.seq none .leaf (.seq none (.sub (.seq none .leaf (.seq none .leaf (.reg [58, 61] [])))) .leaf))))) (.seq none .leaf (.seq none (.seq none .leaf (.cond (.seq none (.reg [72] []) .leaf) .leaf)) (.seq none (.reg [75] []) .leaf)))))))))), [42], [.cell 2 53, .tmp 3, .tmp 4], [], [0], true⟩
noncomputable def F96 : AFunc := ⟨codeOf Try.f96, .leaf, [42], [.tmp 2, .tmp 3, .tmp 4], [], [], true⟩
noncomputable def F88 : AFunc := ⟨codeOf Try.f88, (.seq none (.reg [4] []) (.seq none (.reg [7] []) (.seq none .leaf (.seq none (.seq none .leaf (.sub (.loop [(0, false), (1, false), (7, true), (8, false), (9, false)] (.seq none .leaf (.seq none (.sub (.seq none .leaf (.seq none (.seq none .leaf (.cond (.seq none (.reg [4] []) .leaf) .leaf)) (.seq none (.reg [7, 29] []) .leaf)))) .leaf))))) (.seq none (.reg [4, 36] []) .leaf))))), [42, 3], [.tmp 4, .tmp 5, .tmp 6], [], [0], true⟩
noncomputable def F74 : AFunc := ⟨codeOf Try.f74, (.seq none (.reg [4] []) (.seq none (.seq none .leaf (.sub (.loop [(0, false), (1, false), (5, false)] (.seq none .leaf (.seq none (.sub (.reg [0] [])) .leaf))))) (.seq none (.reg [4, 19] []) .leaf))), [42, 36], [.tmp 4], [], [], true⟩
noncomputable def F75 : AFunc := ⟨codeOf Try.f75, (.seq none (.reg [3, 4] []) (.seq none (.reg [0] []) (.seq none (.seq none .leaf (.sub (.loop [(0, true), (3, true), (5, false)] (.seq none .leaf (.seq none (.sub (.seq none .leaf (.reg [0] []))) .leaf))))) (.seq none (.reg [4, 49] []) .leaf)))), [42, 53], [.tmp 4], [], [], true⟩
noncomputable def F71 : AFunc := ⟨codeOf Try.f71, (.seq none .leaf (.seq none .leaf (.seq none (.seq none .leaf (.cond (.seq none (.reg [22] []) .leaf) .leaf)) (.seq none (.seq none .leaf (.cond (.seq none (.reg [28] []) .leaf) .leaf)) (.seq none (.reg [35] []) (.seq none (.seq none .leaf (.sub (.loop [(0, false), (2, false), (5, false), (6, false), (8, false), (9, false)] (.seq none .leaf (.seq none (.sub (.seq none .leaf (.seq none (.seq none .leaf (.cond (.seq none (.reg [53] []) .leaf) .leaf)) (.seq none (.reg [56, 81] []) .leaf)))) .leaf))))) (.seq none (.seq none .leaf (.seq none .leaf (.cond (.seq none (.reg [90] []) .leaf) .leaf))) (.seq none (.reg [92] []) .leaf)))))))), [42], [.cell 2 53, .tmp 3, .tmp 4], [], [0], true⟩
noncomputable def F46 : AFunc := ⟨codeOf Try.f46, .leaf, [3, 3], [.tmp 4], [], [], true⟩
noncomputable def F43 : AFunc := ⟨codeOf Try.f43, (.seq none .leaf (.seq none .leaf (.seq none (.seq none .leaf (.sub (.loop [(1, false), (2, false), (7, false), (8, false)] .leaf))) .leaf))), [3, 3, 3], [.tmp 6], [], [], true⟩
noncomputable def F44 : AFunc := ⟨codeOf Try.f44, .leaf, [36, 3], [.tmp 4], [], [], true⟩
noncomputable def F66 : AFunc := ⟨codeOf Try.f66, .leaf, [3], [.cell 2 48], [], [], true⟩
noncomputable def F45 : AFunc := ⟨codeOf Try.f45, .leaf, [3], [.cell 2 50], [], [], true⟩
noncomputable def F22 : AFunc := ⟨codeOf Try.f22, (.seq none (.reg [2] []) (.seq none (.reg [3] []) (.seq none .leaf (.seq none (.seq none .leaf (.sub (.loop [(0, false), (3, true), (4, false), (5, false)] (.seq none .leaf (.seq none (.sub (.seq none .leaf (.sub (.loop [(0, false), (3, true), (4, false), (5, false), (6, false)] (.seq none .leaf (.seq none (.sub (.seq none (.reg [29, 30] []) (.seq none .leaf (.seq none (.seq none .leaf (.cond (.reg [62, 65] []) .leaf)) (.seq none (.reg [3, 67] []) .leaf))))) .leaf)))))) .leaf))))) (.seq none (.reg [2, 73] []) .leaf))))), [36], [.tmp 2], [], [0], true⟩
noncomputable def F30 : AFunc := ⟨codeOf Try.f30, (.seq none .leaf (.seq none (.seq none .leaf (.sub (.loop [(0, false), (6, false), (7, false), (8, false)] (.seq none .leaf (.seq none .leaf (.seq none (.sub (.seq none (.reg [12] []) .leaf)) .leaf)))))) .leaf)), [23], [.tmp 2], [], [], true⟩
noncomputable def F32 : AFunc := ⟨codeOf Try.f32, (.seq none .leaf (.seq none (.seq none .leaf (.sub (.loop [(0, false), (3, false)] .leaf))) .leaf)), [23], [.tmp 2], [], [], true⟩
noncomputable def F19 : AFunc := ⟨codeOf Try.f19, (.seq none .leaf (.seq none .leaf (.seq none (.seq none .leaf (.sub (.loop [(0, false), (1, false), (5, false)] .leaf))) .leaf))), [23, 23], [.tmp 4], [], [], true⟩
noncomputable def F51 : AFunc := ⟨codeOf Try.f51, (.seq none (.reg [4] []) (.seq none (.reg [5] []) (.seq none (.seq none .leaf (.sub (.loop [(0, true), (5, true), (12, false), (13, false), (14, false)] (.seq none .leaf (.seq none .leaf (.seq none (.sub (.seq none (.reg [17] []) (.reg [5, 18] []))) .leaf)))))) (.seq none (.reg [4, 23, 28] []) .leaf)))), [42, 23], [.tmp 4], [], [0], true⟩
noncomputable def F52 : AFunc := ⟨codeOf Try.f52, (.seq none (.reg [4] []) (.seq none (.reg [0] []) (.seq none (.seq none .leaf (.sub (.loop [(0, true), (1, false), (5, false)] (.seq none .leaf (.seq none (.sub (.reg [0] [])) .leaf))))) (.seq none (.reg [4, 23] []) .leaf)))), [42, 23], [.tmp 4], [], [], true⟩
noncomputable def F49 : AFunc := ⟨codeOf Try.f49, (.seq none (.reg [2] []) (.seq none .leaf (.seq none (.seq none .leaf (.cond (.seq none (.reg [2] []) .leaf) .leaf)) (.seq none (.seq none .leaf (.cond (.seq none (.reg [2] []) .leaf) .leaf)) (.seq none (.reg [8] []) (.seq none (.seq none .leaf (.sub (.loop [(0, false), (6, false), (8, true), (24, false), (25, false)] (.seq none .leaf (.seq none .leaf (.seq none (.sub (.seq none (.reg [27, 32] []) (.seq none (.seq none .leaf (.cond (.seq none (.reg [2] []) .leaf) .leaf)) (.seq none (.reg [8, 38] []) .leaf)))) .leaf)))))) (.seq none (.seq none .leaf (.seq none .leaf (.cond (.seq none (.reg [2] []) .leaf) .leaf))) (.seq none (.reg [2, 51] []) .leaf)))))))), [42], [.tmp 2, .tmp 3, .tmp 4], [], [0], true⟩
noncomputable def F50 : AFunc := ⟨codeOf Try.f50, (.seq none (.reg [2] []) (.seq none .leaf (.seq none (.seq none .leaf (.cond (.seq none (.reg [2] []) .leaf) .leaf)) (.seq none (.seq none .leaf (.cond (.seq none (.reg [2] []) .leaf) .leaf)) (.seq none (.reg [8] []) (.seq none (.seq none .leaf (.sub (.loop [(0, false), (5, false), (6, false), (8, true), (9, false)] (.seq none .leaf (.seq none (.sub (.seq none (.reg [31, 36] []) (.seq none (.seq none .leaf (.cond (.seq none (.reg [2] []) .leaf) .leaf)) (.seq none (.reg [8, 42] []) .leaf)))) .leaf))))) (.seq none (.seq none .leaf (.seq none .leaf (.cond (.seq none (.reg [2] []) .leaf) .leaf))) (.seq none (.reg [2, 54] []) .leaf)))))))), [42], [.tmp 2, .tmp 3, .tmp 4], [], [0], true⟩
noncomputable def F86 : AFunc := ⟨codeOf Try.f86, (.seq none (.reg [2] []) (.seq none (.seq none .leaf (.cond (.seq none (.reg [2] []) .leaf) .leaf)) (.seq none (.reg [2] []) .leaf))), [51], [.tmp 2], [], [0], true⟩
noncomputable def F65 : AFunc := ⟨codeOf Try.f65, (.seq none (.reg [1] []) (.seq none (.reg [5] []) (.seq none (.reg [7] []) .leaf))), [53], [.cell 2 53], [], [], true⟩
noncomputable def F63 : AFunc := ⟨codeOf Try.f63, (.seq none (.reg [1] []) .leaf), [53], [.tmp 2], [], [], true⟩
noncomputable def F83 : AFunc := ⟨codeOf Try.f83, (.seq none (.reg [4] []) (.seq none .leaf (.seq none .leaf (.seq none (.sub (.loop [(0, false), (2, false), (4, true), (8, false), (9, false), (10, false)] .leaf)) .leaf)))), [23, 53, 78], [.tmp 6, .tmp 7], [], [], true⟩
noncomputable def F61 : AFunc := ⟨codeOf Try.f61, (.seq none (.reg [3] []) .leaf), [23, 53], [.tmp 4], [], [], true⟩
noncomputable def F38 : AFunc := ⟨codeOf Try.f38, (.seq none .leaf (.seq none (.seq none .leaf (.sub (.loop [(0, false), (7, false), (8, false), (9, false)] (.seq none .leaf (.seq none .leaf (.seq none (.sub (.seq none (.reg [12] []) .leaf)) .leaf)))))) .leaf)), [23, 23], [.tmp 4], [], [], true⟩
noncomputable def F35 : AFunc := ⟨codeOf Try.f35, .leaf, [23, 23], [.tmp 4], [], [], true⟩
noncomputable def F62 : AFunc := ⟨codeOf Try.f62, (.seq none (.reg [4] []) (.seq none (.reg [5, 1000005] []) (.seq none (.seq none .leaf (.sub (.loop [(1, false), (5, true), (8, false), (9, false), (10, false)] (.seq none .leaf (.seq none .leaf (.seq none (.sub (.seq none (.reg [13] []) (.seq none .leaf (.cond (.reg [5, 17] []) .leaf)))) .leaf)))))) (.seq none (.reg [4, 23] []) .leaf)))), [23, 80], [.tmp 4], [], [], true⟩
noncomputable def F42 : AFunc := ⟨codeOf Try.f42, (.seq none (.reg [4] []) (.scope [(0, false), (1, false)] (.seq none (.reg [5] [(1, ⟨[.one (.msl 53 0)], [[.arrp 53]]⟩)]) (.seq none .leaf (.seq none (.seq none .leaf (.sub (.loop [(5, true), (13, false), (14, false), (15, false)] (.seq none .leaf (.seq none .leaf (.seq none (.sub (.seq none (.reg [18] []) (.seq none (.seq none .leaf (.sub (.loop [(5, true), (7, false), (13, false), (14, false), (15, false), (19, false), (20, false), (21, false)] (.seq none .leaf (.seq none .leaf (.seq none (.sub (.seq none (.reg [25] []) (.seq none .leaf (.sub (.seq none .leaf (.cond .leaf (.seq none .leaf (.cond (.seq none (.reg [5] []) .leaf) .leaf)))))))) .leaf)))))) (.reg [5, 42] [])))) .leaf)))))) (.seq none (.reg [4, 48, 2000004] []) .leaf)))) .leaf)), [23, 23], [.tmp 4], [], [], true⟩
noncomputable def F48 : AFunc := ⟨codeOf Try.f48, (.seq none (.reg [3] []) (.seq none (.seq none .leaf (.sub (.loop [(0, false), (3, true), (5, false)] .leaf))) .leaf)), [23, 53], [.tmp 4], [], [], true⟩
noncomputable def F25 : AFunc := ⟨codeOf Try.f25, (.seq none .leaf (.seq none (.seq none .leaf (.sub (.loop [(0, false), (1, false), (5, false)] .leaf))) .leaf)), [23, 23], [.tmp 4], [], [], true⟩
noncomputable def F60 : AFunc := ⟨codeOf Try.f60, (.seq none .leaf (.seq none (.seq none .leaf (.sub (.loop [(0, false), (1, false), (5, false)] (.seq none .leaf (.seq none (.sub (.seq none .leaf (.sub (.loop [(0, false), (1, false), (5, false), (6, false)] .leaf)))) .leaf))))) .leaf)), [23, 23], [.tmp 4], [], [], true⟩
noncomputable def F34 : AFunc := ⟨codeOf Try.f34, (.seq none .leaf (.seq none (.seq none .leaf (.sub (.loop [(0, false), (3, false)] (.seq none .leaf (.seq none (.sub (.seq none .leaf (.seq none .leaf (.sub (.loop [(0, false), (3, false), (4, false)] .leaf))))) .leaf))))) .leaf)), [54], [.tmp 2], [], [], true⟩
noncomputable def F67 : AFunc := ⟨codeOf Try.f67, (.seq none .leaf (.seq none (.seq none .leaf (.sub (.loop [(0, false), (1, false), (5, false)] .leaf))) .leaf)), [67, 3], [.tmp 4], [], [], true⟩
noncomputable def F47 : AFunc := ⟨codeOf Try.f47, (.seq none (.reg [4] []) (.seq none (.reg [5] []) (.seq none (.seq none .leaf (.sub (.loop [(0, false), (1, false), (5, true), (6, false)] (.seq none .leaf (.seq none (.sub (.seq none .leaf (.cond (.reg [5, 26] []) .leaf))) .leaf))))) (.seq none (.reg [4, 33] []) .leaf)))), [23, 67], [.tmp 4], [], [], true⟩
noncomputable def F24 : AFunc := ⟨codeOf Try.f24, (.seq none (.reg [4] []) (.seq none (.reg [5] []) (.seq none (.seq none .leaf (.sub (.loop [(0, false), (1, false), (5, true), (6, false)] (.seq none .leaf (.seq none (.sub (.seq none .leaf (.cond (.reg [5, 16] []) .leaf))) .leaf))))) (.seq none (.reg [4] []) .leaf)))), [23, 3], [.tmp 4], [], [], true⟩
noncomputable def F80 : AFunc := ⟨codeOf Try.f80, .leaf, [50, 50], [.tmp 4], [], [], true⟩
noncomputable def F57 : AFunc := ⟨codeOf Try.f57, (.seq none (.reg [2, 3] []) (.seq none .leaf (.seq none (.seq none .leaf (.sub (.loop [(3, true), (29, false), (30, false), (31, false)] .leaf))) .leaf))), [53, 53], [.tmp 4], [], [], true⟩
noncomputable def F56 : AFunc := ⟨codeOf Try.f56, (.seq none (.reg [2] []) .leaf), [53, 3], [.tmp 3], [], [], true⟩
noncomputable def F79 : AFunc := ⟨codeOf Try.f79, (.seq none .leaf (.seq none (.seq none .leaf (.sub (.loop [(0, false), (1, false), (7, false), (8, false)] .leaf))) .leaf)), [23, 80], [.tmp 4], [], [], true⟩
noncomputable def F55 : AFunc := ⟨codeOf Try.f55, .leaf, [23, 80], [.tmp 4], [], [], true⟩
noncomputable def F31 : AFunc := ⟨codeOf Try.f31, (.seq none .leaf (.seq none (.seq none .leaf (.sub (.loop [(0, false), (7, false), (8, false), (9, false)] (.seq none .leaf (.seq none .leaf (.seq none (.sub (.seq none (.reg [12] []) .leaf)) .leaf)))))) .leaf)), [23, 23], [.tmp 4], [], [], true⟩
noncomputable def F33 : AFunc := ⟨codeOf Try.f33, (.seq none .leaf (.seq none (.seq none .leaf (.sub (.loop [(0, false), (1, false), (5, false)] (.seq none .leaf (.seq none (.sub (.seq none .leaf (.seq none (.seq none .leaf (.sub (.loop [(0, false), (1, false), (5, false), (6, false), (7, false)] .leaf))) .leaf))) .leaf))))) .leaf)), [23, 23], [.tmp 4], [], [], true⟩
noncomputable def F10 : AFunc := ⟨codeOf Try.f10, (.seq none (.reg [1] []) (.seq none (.seq none .leaf (.sub (.loop [(1, true), (10, false), (11, false), (12, false)] .leaf))) .leaf)), [25], [.tmp 2], [], [], true⟩
noncomputable def F11 : AFunc := ⟨codeOf Try.f11, (.seq none (.reg [1] []) .leaf), [25], [.tmp 2], [], [], true⟩
noncomputable def F14 : AFunc := ⟨codeOf Try.f14, (.seq none (.reg [2, 3] []) .leaf), [25, 25], [.tmp 4], [], [], true⟩
noncomputable def F26 : AFunc := ⟨codeOf Try.f26, (.seq none .leaf (.seq none .leaf (.seq none .leaf (.seq none (.seq none .leaf (.sub (.sub (.seq none .leaf (.seq none .leaf (.seq none (.sub (.seq none .leaf (.seq none (.reg [9, 21, 26] []) (.seq none (.seq none .leaf (.cond (.seq none (.reg [31] []) .leaf) .leaf)) (.seq none (.reg [34] []) .leaf))))) .leaf)))))) (.seq none (.seq none .leaf (.seq none .leaf (.cond (.seq none (.reg [44] []) .leaf) .leaf))) (.seq none (.reg [46] []) .leaf)))))), [42], [.cell 2 25, .tmp 3, .tmp 4], [], [0], true⟩
noncomputable def F27 : AFunc := ⟨codeOf Try.f27, (.seq none .leaf (.seq none (.reg [5, 12, 15] []) (.seq none (.seq none .leaf (.cond (.seq none (.reg [20] []) .leaf) .leaf)) (.seq none .leaf (.seq none (.seq none .leaf (.cond (.seq none (.reg [32] []) .leaf) .leaf)) (.seq none (.reg [34, 36] []) (.seq none (.seq none .leaf (.seq none .leaf (.cond (.seq none (.reg [41] []) .leaf) .leaf))) (.seq none (.reg [43] []) .leaf)))))))), [42], [.cell 2 25, .tmp 3, .tmp 4], [], [], true⟩
noncomputable def F28 : AFunc := ⟨codeOf Try.f28, (.seq none (.reg [3, 4] []) (.seq none (.reg [4] []) .leaf)), [42, 25], [.tmp 4], [], [0], true⟩
noncomputable def F29 : AFunc := ⟨codeOf Try.f29, (.seq none (.reg [3, 4] []) (.seq none (.reg [4] []) .leaf)), [42, 25], [.tmp 4], [], [], true⟩
noncomputable def F9 : AFunc := ⟨codeOf Try.f9, (.seq none .leaf (.seq none (.reg [8, 9] []) (.seq none (.reg [10, 14] []) .leaf))), [], [.tmp 0], [], [], true⟩
noncomputable def F3 : AFunc := ⟨codeOf Try.f3, (.seq none (.reg [1] []) .leaf), [25], [.tmp 2], [], [], true⟩
noncomputable def F8 : AFunc := ⟨codeOf Try.f8, (.seq none (.reg [2] []) (.seq none .leaf (.seq none (.reg [31, 34] []) (.seq none (.reg [37, 40] []) (.seq none .leaf (.seq none .leaf (.seq none .leaf (.seq none (.reg [63, 70] []) .leaf)))))))), [25, 42], [.tmp 4], [], [], true⟩
noncomputable def F37 : AFunc := ⟨codeOf Try.f37, .leaf, [23, 3], [.tmp 3], [], [], true⟩
noncomputable def F41 : AFunc := ⟨codeOf Try.f41, .leaf, [23, 3], [.tmp 3], [], [], true⟩
noncomputable def F36 : AFunc := ⟨codeOf Try.f36, (.seq none .leaf (.seq none (.seq none .leaf (.sub (.loop [(0, false), (7, false), (8, false), (9, false)] .leaf))) .leaf)), [58, 54], [.tmp 4], [], [], true⟩
noncomputable def F15 : AFunc := ⟨codeOf Try.f15, (.seq none (.reg [2, 3] []) .leaf), [25, 25], [.tmp 4], [], [], true⟩
noncomputable def F16 : AFunc := ⟨codeOf Try.f16, (.seq none (.reg [2, 3] []) .leaf), [25, 25], [.tmp 4], [], [], true⟩
noncomputable def F39 : AFunc := ⟨codeOf Try.f39, (.seq none (.reg [1] []) (.seq none (.reg [5, 9] []) .leaf)), [25], [.cell 2 25], [], [], true⟩
noncomputable def F17 : AFunc := ⟨codeOf Try.f17, (.seq none (.reg [2, 3] []) (.seq none (.seq none .leaf (.cond (.seq none (.reg [9] []) .leaf) .leaf)) (.seq none (.reg [11] []) .leaf))), [25, 25], [.cell 4 25], [], [], true⟩
noncomputable def F18 : AFunc := ⟨codeOf Try.f18, (.seq none (.reg [2, 3] []) (.seq none (.seq none .leaf (.cond (.seq none (.reg [8] []) .leaf) .leaf)) (.seq none (.reg [9] []) .leaf))), [25, 25], [.cell 4 25], [], [], true⟩
noncomputable def F20 : AFunc := ⟨codeOf Try.f20, (.seq none (.reg [2, 3, 4] []) (.seq none (.seq none .leaf (.cond (.seq none (.reg [4] []) .leaf) .leaf)) (.seq none (.reg [4] []) .leaf))), [25, 25], [.tmp 4], [], [], true⟩
noncomputable def F21 : AFunc := ⟨codeOf Try.f21, (.seq none (.reg [2, 3, 4] []) (.seq none (.seq none .leaf (.cond (.seq none (.reg [4, 18] []) .leaf) .leaf)) (.seq none (.reg [4, 20] []) .leaf))), [25, 25], [.tmp 4], [], [], true⟩
noncomputable def F13 : AFunc := ⟨codeOf Try.f13, (.seq none (.reg [2, 3] []) .leaf), [25, 25], [.tmp 4], [], [], true⟩
noncomputable def F23 : AFunc := ⟨codeOf Try.f23, (.seq none .leaf (.seq none .leaf (.seq none (.reg [13, 15] []) .leaf))), [23, 3], [.cell 4 25], [], [], true⟩
noncomputable def F12 : AFunc := ⟨codeOf Try.f12, (.seq none .leaf (.seq none (.reg [3] []) (.seq none (.seq none .leaf (.sub (.loop [(0, false), (3, true), (4, false)] (.seq none .leaf (.seq none (.sub (.seq none .leaf (.reg [3, 35] []))) .leaf))))) .leaf))), [31], [.tmp 2], [], [], true⟩
noncomputable def F4 : AFunc := ⟨codeOf Try.f4, (.seq none (.reg [2, 3] []) (.seq (some [(2, true), (3, true)]) .leaf (.seq (some [(4, false)]) .leaf .leaf))), [25, 25], [.tmp 4], [], [], true⟩
noncomputable def F5 : AFunc := ⟨codeOf Try.f5, (.seq none .leaf (.seq none .leaf (.seq none (.reg [17, 20, 23] []) .leaf))), [36, 3, 3, 3], [.tmp 8], [], [], true⟩
noncomputable def F6 : AFunc := ⟨codeOf Try.f6, (.seq none .leaf (.seq none .leaf (.seq none (.reg [17] []) (.seq none (.reg [21, 22] []) (.seq none (.reg [26, 27] []) .leaf))))), [36, 3, 3, 3], [.tmp 8], [], [], true⟩
noncomputable def F7 : AFunc := ⟨codeOf Try.f7, (.seq none .leaf (.seq none .leaf (.seq none (.reg [15, 18] []) .leaf))), [36, 3, 3], [.tmp 6], [], [], true⟩
noncomputable def fnTab : List (Nat × (Sig × FnDef)) := [
  (7, (⟨[.one (.bool)], []⟩, .code F7)),
  (6, (⟨[.one (.bool)], []⟩, .code F6)),
  (5, (⟨[.one (.bool)], []⟩, .code F5)),
  (4, (⟨[.one (.bool)], []⟩, .code F4)),
  (12, (⟨[.one (.bool)], []⟩, .code F12)),
  (23, (⟨[.agg [.sl false 53, .sl false 53]], []⟩, .code F23)),
  (13, (⟨[.one (.bool)], []⟩, .code F13)),
  (21, (⟨[.one (.sl false 53)], []⟩, .code F21)),
  (20, (⟨[.one (.sl false 53)], []⟩, .code F20)),
  (18, (⟨[.agg [.sl false 53, .sl false 53]], []⟩, .code F18)),
  (17, (⟨[.agg [.sl false 53, .sl false 53]], []⟩, .code F17)),
  (39, (⟨[.agg [.sl false 53, .sl false 53]], []⟩, .code F39)),
  (16, (⟨[.one (.bool)], []⟩, .code F16)),
  (15, (⟨[.one (.bool)], []⟩, .code F15)),
  (36, (⟨[.one (.bool)], [[.sl false 53, .sl false 53]]⟩, .code F36)),
  (41, (⟨[.one (.bool)], [[.sl false 53, .sl false 53]]⟩, .code F41)),
  (37, (⟨[.one (.bool)], [[.sl false 53, .sl false 53]]⟩, .code F37)),
  (8, (⟨[.one (.bool)], []⟩, .code F8)),
  (3, (⟨[.one (.bool)], []⟩, .code F3)),
  (9, (⟨[.one (.bool)], []⟩, .code F9)),
  (29, (⟨[.one (.sl false 5)], []⟩, .code F29)),
  (28, (⟨[.one (.sl true 5)], []⟩, .code F28)),
  (27, (⟨[.agg [.sl false 53, .sl false 53], .one (.int .i64), .one (.int .i64)], []⟩, .code F27)),
  (26, (⟨[.agg [.sl true 53, .sl true 53], .one (.int .i64), .one (.int .i64)], []⟩, .code F26)),
  (14, (⟨[.one (.bool)], []⟩, .code F14)),
  (11, (⟨[.one (.int .i64)], []⟩, .code F11)),
  (10, (⟨[.one (.int .i64)], []⟩, .code F10)),
  (33, (⟨[.one (.bool)], []⟩, .code F33)),
  (31, (⟨[.one (.bool)], []⟩, .code F31)),
  (55, (⟨[.one (.bool)], [[.int .i64, .int .i64, .sl false 50]]⟩, .code F55)),
  (79, (⟨[.one (.int .i64)], [[.int .i64, .int .i64, .sl false 50]]⟩, .code F79)),
  (56, (⟨[.one (.bool)], [[.int .i64, .int .i64, .sl false 50]]⟩, .code F56)),
  (57, (⟨[.one (.bool)], []⟩, .code F57)),
  (80, (⟨[.one (.bool)], []⟩, .code F80)),
  (24, (⟨[.one (.sl false 53)], []⟩, .code F24)),
  (47, (⟨[.one (.sl false 53)], []⟩, .code F47)),
  (67, (⟨[.one (.int .i64)], []⟩, .code F67)),
  (34, (⟨[.one (.bool)], []⟩, .code F34)),
  (60, (⟨[.one (.bool)], []⟩, .code F60)),
  (25, (⟨[.one (.bool)], []⟩, .code F25)),
  (48, (⟨[.one (.bool)], []⟩, .code F48)),
  (42, (⟨[.one (.sl false 53)], []⟩, .code F42)),
  (64, (⟨[.one (.msl 53 1)], [[.deadp], [.arrp 53]]⟩, .prim (primIns 53))),
  (62, (⟨[.one (.msl 53 0)], [[.arrp 53]]⟩, .code F62)),
  (35, (⟨[.one (.bool)], []⟩, .code F35)),
  (38, (⟨[.one (.bool)], []⟩, .code F38)),
  (61, (⟨[.one (.bool)], []⟩, .code F61)),
  (83, (⟨[.one (.int .i64), .one (.bool)], []⟩, .code F83)),
  (63, (⟨[.one (.bool)], []⟩, .code F63)),
  (65, (⟨[.agg [.int .i64, .int .i64, .sl false 50]], []⟩, .code F65)),
  (86, (⟨[.one (.sl true 50)], []⟩, .code F86)),
  (50, (⟨[.one (.sl true 53), .one (.int .i64), .one (.int .i64)], []⟩, .code F50)),
  (49, (⟨[.one (.sl true 53), .one (.int .i64), .one (.int .i64)], []⟩, .code F49)),
  (52, (⟨[.one (.sl false 5)], []⟩, .code F52)),
  (51, (⟨[.one (.sl true 5)], []⟩, .code F51)),
  (19, (⟨[.one (.bool)], []⟩, .code F19)),
  (32, (⟨[.one (.int .i64)], []⟩, .code F32)),
  (30, (⟨[.one (.int .i64)], []⟩, .code F30)),
  (22, (⟨[.one (.sl true 53)], []⟩, .code F22)),
  (45, (⟨[.agg [.int .i64, .int .i64, .int .i64, .int .i64, .int .i64, .int .i64, .int .i64]], []⟩, .code F45)),
  (66, (⟨[.agg [.int .i64, .int .i64, .int .i64]], []⟩, .code F66)),
  (44, (⟨[.one (.int .i64)], []⟩, .code F44)),
  (43, (⟨[.one (.int .i64)], []⟩, .code F43)),
  (46, (⟨[.one (.int .i64)], []⟩, .code F46)),
  (71, (⟨[.agg [.int .i64, .int .i64, .sl true 50], .one (.int .i64), .one (.int .i64)], []⟩, .code F71)),
  (75, (⟨[.one (.sl false 5)], []⟩, .code F75)),
  (74, (⟨[.one (.sl false 5)], []⟩, .code F74)),
  (88, (⟨[.one (.sl true 3), .one (.int .i64), .one (.int .i64)], []⟩, .code F88)),
  (96, (⟨[.one (.int .i64), .one (.int .i64), .one (.int .i64)], []⟩, .code F96)),
  (69, (⟨[.agg [.int .i64, .int .i64, .sl true 50], .one (.int .i64), .one (.int .i64)], []⟩, .code F69)),
  (73, (⟨[.one (.sl true 5)], []⟩, .code F73)),
  (87, (⟨[.one (.int .i64)], [[.sl false 5, .int .i64, .int .i64]]⟩, .code F87)),
  (70, (⟨[.one (.int .u64), .one (.int .i64), .one (.int .i64)], []⟩, .code F70)),
  (68, (⟨[.one (.int .u64), .one (.int .i64), .one (.int .i64)], []⟩, .code F68)),
  (89, (⟨[.one (.sl true 5)], []⟩, .code F89)),
  (72, (⟨[.one (.sl true 5)], []⟩, .code F72)),
  (40, (⟨[.one (.bool)], []⟩, .code F40)),
  (59, (⟨[.one (.int .i64)], []⟩, .code F59)),
  (54, (⟨[.one (.int .i64)], []⟩, .code F54)),
  (77, (⟨[.one (.int .i64)], []⟩, .code F77)),
  (78, (⟨[.one (.int .i64)], []⟩, .code F78)),
  (92, (⟨[.one (.bool)], []⟩, .code F92)),
  (58, (⟨[.one (.int .i64)], []⟩, .code F58)),
  (53, (⟨[.one (.int .i64)], []⟩, .code F53)),
  (82, (⟨[.one (.int .i64)], []⟩, .code F82)),
  (76, (⟨[.one (.int .i64)], []⟩, .code F76)),
  (94, (⟨[.one (.int .i64)], []⟩, .code F94)),
  (81, (⟨[.one (.bool)], []⟩, .code F81)),
  (93, (⟨[.one (.bool)], []⟩, .code F93)),
  (91, (⟨[.one (.int .i64)], []⟩, .code F91)),
  (90, (⟨[.one (.bool)], []⟩, .code F90))]
noncomputable def E : Env := ⟨lookT tyTab, lookT fnTab⟩
def s90 : Go.Abs.Spec := fun args blk => match args, blk with
  | [.one (.int .i64 n), .one (.int .i64 lo), .one (.int .i64 hi), .one (.bool u)], [] => (true, ([.one (.bool (within n lo hi u))], []))
  | _, _ => (false, ([], []))
def s91 : Go.Abs.Spec := fun args blk => match args, blk with
  | [.agg [.int .i64 k, .int .i64 c, .int .i64 f]], [] => (true, ([.one (.int .i64 (vRule k c f))], []))
  | _, _ => (false, ([], []))
def s93 : Go.Abs.Spec := fun args blk => match args, blk with
  | [.one (.int .i64 n)], [] => (true, ([.one (.bool (isServer n))], []))
  | _, _ => (false, ([], []))
def s81 : Go.Abs.Spec := fun args blk => match args, blk with
  | [.one (.int .i64 n)], [] => (true, ([.one (.bool (isAdmin n))], []))
  | _, _ => (false, ([], []))
def s94 : Go.Abs.Spec := fun args blk => match args, blk with
  | [.agg [.int .i64 k, .int .i64 c, .int .i64 f]], [] => (true, ([.one (.int .i64 (vRule k c f))], []))
  | _, _ => (false, ([], []))
def s76 : Go.Abs.Spec := fun args blk => match args, blk with
  | [.agg [.int .i64 k, .int .i64 s, .int .i64 w, .int .i64 v, .int .i64 rk, .int .i64 rc, .int .i64 rf]], [] => (true, ([.one (.int .i64 (vChange k s w v rk rc rf))], []))
  | _, _ => (false, ([], []))
def s82 : Go.Abs.Spec := fun args blk => match args, blk with
  | [.agg [.int .i64 k, .int .i64 s, .int .i64 w, .int .i64 v, .int .i64 rk, .int .i64 rc, .int .i64 rf]], [] => (true, ([.one (.int .i64 (vChange k s w v rk rc rf))], []))
  | _, _ => (false, ([], []))
def s53 : Go.Abs.Spec := fun args blk => match args, blk with
  | [.agg [.int .i64 ap, .int .i64 np, .sl false 50 cp]], [] => ((decide (cp.length < 9223372036854775808)), ([.one (.int .i64 (vProp ap np cp))], []))
  | _, _ => (false, ([], []))
def s58 : Go.Abs.Spec := fun args blk => match args, blk with
  | [.agg [.int .i64 ap, .int .i64 np, .sl false 50 cp]], [] => ((decide (cp.length < 9223372036854775808)), ([.one (.int .i64 (vProp ap np cp))], []))
  | _, _ => (false, ([], []))
def s92 : Go.Abs.Spec := fun args blk => match args, blk with
  | [.one (.int .i64 n)], [] => (true, ([.one (.bool false)], []))
  | _, _ => (false, ([], []))
def s78 : Go.Abs.Spec := fun args blk => match args, blk with
  | [.one (.int .i64 x), .one (.int .i64 y)], [] => (true, ([.one (.int .i64 (cmpI x y))], []))
  | _, _ => (false, ([], []))
def s77 : Go.Abs.Spec := fun args blk => match args, blk with
  | [.one (.sl false 3 l)], [] => ((decide (l.length < 9223372036854775808)), ([.one (.int .i64 (orI1 l))], []))
  | _, _ => (false, ([], []))
def s54 : Go.Abs.Spec := fun args blk => match args, blk with
  | [.agg [.int .i64 ap, .int .i64 np, .sl false 50 cp], .agg [.int .i64 aq, .int .i64 nq, .sl false 50 cq]], [] => (true, ([.one (.int .i64 (cmpP ap np aq nq))], []))
  | _, _ => (false, ([], []))
def s59 : Go.Abs.Spec := fun args blk => match args, blk with
  | [.agg [.int .i64 ap, .int .i64 np, .sl false 50 cp], .agg [.int .i64 aq, .int .i64 nq, .sl false 50 cq]], [] => (true, ([.one (.int .i64 (cmpP ap np aq nq))], []))
  | _, _ => (false, ([], []))
def s40 : Go.Abs.Spec := fun args blk => match args, blk with
  | [.agg [.int .i64 ap, .int .i64 np, .sl false 50 cp], .agg [.int .i64 aq, .int .i64 nq, .sl false 50 cq]], [] => ((decide (cp.length < 9223372036854775808)), ([.one (.bool (eqP ap np cp aq nq cq))], []))
  | _, _ => (false, ([], []))
def s72 : Go.Abs.Spec := fun args blk => match args, blk with
  | [.one (.sl false 5 x), .one (.int .u64 v)], [] => ((okEnc x v), ([.one (.sl true 5 (x ++ uenc v))], []))
  | [.one (.nils), .one (.int .u64 v)], [] => ((okU v), ([.one (.sl true 5 (uenc v))], []))
  | _, _ => (false, ([], []))
def s89 : Go.Abs.Spec := fun args blk => match args, blk with
  | [.one (.sl false 5 x), .one (.int .u64 v)], [] => ((okEnc x v), ([.one (.sl true 5 (x ++ uenc v))], []))
  | _, _ => (false, ([], []))
def s68 : Go.Abs.Spec := fun args blk => match args, blk with
  | [.one (.sl false 5 x)], [] => ((okRd x), ([.one (.int .u64 (udec x).1), .one (.int .i64 (udec x).2.1), .one (.int .i64 (udec x).2.2)], []))
  | _, _ => (false, ([], []))
def s70 : Go.Abs.Spec := fun args blk => match args, blk with
  | [.one (.sl false 5 x)], [] => ((okRd x), ([.one (.int .u64 (udec x).1), .one (.int .i64 (udec x).2.1), .one (.int .i64 (udec x).2.2)], []))
  | _, _ => (false, ([], []))
def s87 : Go.Abs.Spec := fun args blk => match args, blk with
  | [.one (.ptr 0 0)], [.var [.sl false 5 b, .int .i64 o, .int .i64 e]] => ((okAt b o), ([.one (.int .i64 (rnum b o e).1)], [.var [.sl false 5 b, .int .i64 (rnum b o e).2.1, .int .i64 (rnum b o e).2.2]]))
  | _, _ => (false, ([], []))
def s73 : Go.Abs.Spec := fun args blk => match args, blk with
  | [.one (.sl false 5 x), .agg [.int .i64 ap, .int .i64 np, .sl false 50 cp]], [] => ((okApp x cp), ([.one (.sl true 5 (x ++ encP ap np cp))], []))
  | [.one (.nils), .agg [.int .i64 ap, .int .i64 np, .sl false 50 cp]], [] => ((okApp [] cp), ([.one (.sl true 5 (encP ap np cp))], []))
  | _, _ => (false, ([], []))
def s69 : Go.Abs.Spec := fun args blk => match args, blk with
  | [.one (.sl false 5 x)], [] => ((okRd x), ([.agg [.int .i64 (decP x).1, .int .i64 (decP x).2.1, .sl true 50 (decP x).2.2.1], .one (.int .i64 (decP x).2.2.2.1), .one (.int .i64 (decP x).2.2.2.2)], []))
  | _, _ => (false, ([], []))
def s96 : Go.Abs.Spec := fun args blk => match args, blk with
  | [.one (.sl false 5 x)], [] => ((okRd x), ([.one (.int .i64 (rnum2 x).1), .one (.int .i64 (rnum2 x).2.1), .one (.int .i64 (rnum2 x).2.2)], []))
  | _, _ => (false, ([], []))
def s88 : Go.Abs.Spec := fun args blk => match args, blk with
  | [.one (.sl false 5 x), .one (.int .i64 c)], [] => ((okRd x && decide (c ≤ 1000)), ([.one (.sl true 3 (rread x c).1), .one (.int .i64 (rread x c).2.1), .one (.int .i64 (rread x c).2.2)], []))
  | _, _ => (false, ([], []))
def s74 : Go.Abs.Spec := fun args blk => match args, blk with
  | [.one (.sl false 5 x), .one (.sl false 3 l)], [] => ((okNums x l), ([.one (.sl false 5 (x ++ encL l))], []))
  | _, _ => (false, ([], []))
def s75 : Go.Abs.Spec := fun args blk => match args, blk with
  | [.one (.sl false 5 x), .agg [.int .i64 ap, .int .i64 np, .sl false 50 cp]], [] => ((okApp x cp), ([.one (.sl false 5 (x ++ encP ap np cp))], []))
  | [.one (.nils), .agg [.int .i64 ap, .int .i64 np, .sl false 50 cp]], [] => ((okApp [] cp), ([.one (.sl false 5 (encP ap np cp))], []))
  | _, _ => (false, ([], []))
def s71 : Go.Abs.Spec := fun args blk => match args, blk with
  | [.one (.sl false 5 x)], [] => ((okRd x), ([.agg [.int .i64 (decP x).1, .int .i64 (decP x).2.1, .sl true 50 (decP x).2.2.1], .one (.int .i64 (decP x).2.2.2.1), .one (.int .i64 (decP x).2.2.2.2)], []))
  | _, _ => (false, ([], []))
def s46 : Go.Abs.Spec := fun args blk => match args, blk with
  | [.one (.int .i64 n), .one (.int .i64 k)], [] => ((decide (k ≤ 4611686018427387904)), ([.one (.int .i64 (gIndex n k))], []))
  | _, _ => (false, ([], []))
def s43 : Go.Abs.Spec := fun args blk => match args, blk with
  | [.one (.int .i64 n), .one (.int .i64 b), .one (.int .i64 j)], [] => ((decide (2 ≤ b) && decide (j ≤ 9223372036854775807)), ([.one (.int .i64 (gDigit n b j))], []))
  | _, _ => (false, ([], []))
def s44 : Go.Abs.Spec := fun args blk => match args, blk with
  | [.one (.sl false 3 l), .one (.int .i64 j)], [] => ((decide (l.length < 4611686018427387904)), ([.one (.int .i64 (gAt l j))], []))
  | _, _ => (false, ([], []))
def s66 : Go.Abs.Spec := fun args blk => match args, blk with
  | [.one (.int .i64 n)], [] => (true, ([.agg [.int .i64 (gRule n).1, .int .i64 (gRule n).2.1, .int .i64 (gRule n).2.2]], []))
  | _, _ => (false, ([], []))
def s45 : Go.Abs.Spec := fun args blk => match args, blk with
  | [.one (.int .i64 n)], [] => (true, ([.agg [.int .i64 (gCh n 0), .int .i64 (gCh n 1), .int .i64 (gCh n 2), .int .i64 (gCh n 3), .int .i64 (gCh n 4), .int .i64 (gCh n 5), .int .i64 (gCh n 6)]], []))
  | _, _ => (false, ([], []))
def s22 : Go.Abs.Spec := fun args blk => match args, blk with
  | [.one (.sl false 3 l)], [] => ((decide (l.length < 4611686018427387904)), ([.one (.sl true 53 (gPool l))], []))
  | _, _ => (false, ([], []))
def s30 : Go.Abs.Spec := fun args blk => match args, blk with
  | [.one (.sl false 53 c)], [] => ((okRows c), ([.one (.int .i64 (vCfg c))], []))
  | _, _ => (false, ([], []))
def s32 : Go.Abs.Spec := fun args blk => match args, blk with
  | [.one (.sl false 53 c)], [] => ((okRows c), ([.one (.int .i64 (vCfg c))], []))
  | _, _ => (false, ([], []))
def s19 : Go.Abs.Spec := fun args blk => match args, blk with
  | [.one (.sl false 53 c), .one (.sl false 53 d)], [] => ((okRows c), ([.one (.bool (eqCfg c d))], []))
  | _, _ => (false, ([], []))
def s51 : Go.Abs.Spec := fun args blk => match args, blk with
  | [.one (.sl false 5 x), .one (.sl false 53 c)], [] => ((okCApp x c), ([.one (.sl true 5 (x ++ encC c))], []))
  | [.one (.nils), .one (.sl false 53 c)], [] => ((okCApp [] c), ([.one (.sl true 5 (encC c))], []))
  | _, _ => (false, ([], []))
def s52 : Go.Abs.Spec := fun args blk => match args, blk with
  | [.one (.sl false 5 x), .one (.sl false 53 c)], [] => ((okCApp x c), ([.one (.sl false 5 (x ++ encC c))], []))
  | [.one (.nils), .one (.sl false 53 c)], [] => ((okCApp [] c), ([.one (.sl false 5 (encC c))], []))
  | _, _ => (false, ([], []))
def s49 : Go.Abs.Spec := fun args blk => match args, blk with
  | [.one (.sl false 5 x)], [] => ((okRd x), ([.one (.sl true 53 (decC x).1), .one (.int .i64 (decC x).2.1), .one (.int .i64 (decC x).2.2)], []))
  | _, _ => (false, ([], []))
def s50 : Go.Abs.Spec := fun args blk => match args, blk with
  | [.one (.sl false 5 x)], [] => ((okRd x), ([.one (.sl true 53 (decC x).1), .one (.int .i64 (decC x).2.1), .one (.int .i64 (decC x).2.2)], []))
  | _, _ => (false, ([], []))
def s86 : Go.Abs.Spec := fun args blk => match args, blk with
  | [.one (.sl false 50 c)], [] => ((okCh c), ([.one (.sl true 50 c)], []))
  | _, _ => (false, ([], []))
def s65 : Go.Abs.Spec := fun args blk => match args, blk with
  | [.agg [.int .i64 ap, .int .i64 np, .sl false 50 cp]], [] => ((okCh cp), ([.agg [.int .i64 ap, .int .i64 np, .sl false 50 cp]], []))
  | _, _ => (false, ([], []))
def s63 : Go.Abs.Spec := fun args blk => match args, blk with
  | [.agg [.int .i64 ap, .int .i64 np, .sl false 50 cp]], [] => (true, ([.one (.bool true)], []))
  | _, _ => (false, ([], []))
def s83 : Go.Abs.Spec := fun args blk => match args, blk with
  | [.one (.sl false 53 c), .agg [.int .i64 ap, .int .i64 np, .sl false 50 cp], .one (.fn 54 [])], [] => ((okSrt c), ([.one (.int .i64 (lowK c (prow ap np cp) : Int)), .one (.bool (hasK c (prow ap np cp)))], []))
  | _, _ => (false, ([], []))
def s61 : Go.Abs.Spec := fun args blk => match args, blk with
  | [.one (.sl false 53 c), .agg [.int .i64 ap, .int .i64 np, .sl false 50 cp]], [] => ((okSrt c), ([.one (.bool (hasK c (prow ap np cp)))], []))
  | _, _ => (false, ([], []))
def s38 : Go.Abs.Spec := fun args blk => match args, blk with
  | [.one (.sl false 53 c), .one (.sl false 53 d)], [] => ((okSrt c && okLn d), ([.one (.bool (contK c d))], []))
  | _, _ => (false, ([], []))
def s35 : Go.Abs.Spec := fun args blk => match args, blk with
  | [.one (.sl false 53 c), .one (.sl false 53 d)], [] => ((okSrt c && okSrt d), ([.one (.bool (contK c d && contK d c))], []))
  | _, _ => (false, ([], []))
def s62 : Go.Abs.Spec := fun args blk => match args, blk with
  | [.one (.sl false 53 c), .one (.fn 63 [])], [] => ((okCl c), ([.one (.msl 53 0 c.length)], [.arr 53 c]))
  | _, _ => (false, ([], []))
def s64 : Go.Abs.Spec := fun args blk => match args, blk with
  | [.one (.msl 53 0 n), .one (.int .i64 k), .one (.sl false 53 y)], [.arr 53 x] => ((okIns n k x y), ([.one (.msl 53 1 (x.length + y.length))], [.dead, .arr 53 (insL x y (Int.toNat k))]))
  | _, _ => (false, ([], []))
def s42 : Go.Abs.Spec := fun args blk => match args, blk with
  | [.one (.sl false 53 c), .one (.sl false 53 d)], [] => ((okCl c && okCl d), ([.one (.sl false 53 (uniK c d))], []))
  | [.one (.sl false 53 c), .one (.nils)], [] => ((okCl c), ([.one (.sl false 53 c)], []))
  | _, _ => (false, ([], []))
def s48 : Go.Abs.Spec := fun args blk => match args, blk with
  | [.one (.sl false 53 c), .agg [.int .i64 ap, .int .i64 np, .sl false 50 cp]], [] => ((okLn c), ([.one (.bool (hasK c (prow ap np cp)))], []))
  | _, _ => (false, ([], []))
def s25 : Go.Abs.Spec := fun args blk => match args, blk with
  | [.one (.sl false 53 c), .one (.sl false 53 d)], [] => ((okLn c && okLn d), ([.one (.bool (contK c d))], []))
  | _, _ => (false, ([], []))
def s60 : Go.Abs.Spec := fun args blk => match args, blk with
  | [.one (.sl false 53 c), .one (.sl false 53 d)], [] => ((okRows c && okLn d), ([.one (.bool (agrC c d))], []))
  | _, _ => (false, ([], []))
def s34 : Go.Abs.Spec := fun args blk => match args, blk with
  | [.one (.sl false 23 l)], [] => ((okCs l), ([.one (.bool (validCs l))], []))
  | _, _ => (false, ([], []))
def s67 : Go.Abs.Spec := fun args blk => match args, blk with
  | [.one (.sl false 69 v), .one (.int .i64 a)], [] => ((okLn v), ([.one (.int .i64 (cntV v a))], []))
  | _, _ => (false, ([], []))
def s47 : Go.Abs.Spec := fun args blk => match args, blk with
  | [.one (.sl false 53 c), .one (.sl false 69 v)], [] => ((okCf c && okLn v), ([.one (.sl false 53 (restr c v))], []))
  | _, _ => (false, ([], []))
def s24 : Go.Abs.Spec := fun args blk => match args, blk with
  | [.one (.sl false 53 c), .one (.int .i64 n)], [] => ((okCf c), ([.one (.sl false 53 (gPart c n))], []))
  | _, _ => (false, ([], []))
def s80 : Go.Abs.Spec := fun args blk => match args, blk with
  | [.agg [.int .i64 k1, .int .i64 s1, .int .i64 w1, .int .i64 v1, .int .i64 rk1, .int .i64 rc1, .int .i64 rf1], .agg [.int .i64 k2, .int .i64 s2, .int .i64 w2, .int .i64 v2, .int .i64 rk2, .int .i64 rc2, .int .i64 rf2]], [] => (true, ([.one (.bool (eqCh k1 s1 w1 v1 rk1 rc1 rf1 k2 s2 w2 v2 rk2 rc2 rf2))], []))
  | _, _ => (false, ([], []))
def s57 : Go.Abs.Spec := fun args blk => match args, blk with
  | [.agg [.int .i64 ap, .int .i64 np, .sl false 50 cp], .agg [.int .i64 aq, .int .i64 nq, .sl false 50 cq]], [] => ((decide (cp.length < 9223372036854775808)), ([.one (.bool (eqP ap np cp aq nq cq))], []))
  | _, _ => (false, ([], []))
def s56 : Go.Abs.Spec := fun args blk => match args, blk with
  | [.agg [.int .i64 aq, .int .i64 nq, .sl false 50 cq], .one (.ptr 0 0)], [.var [.int .i64 a, .int .i64 n, .sl false 50 l]] => ((decide (l.length < 9223372036854775808)), ([.one (.bool (eqP a n l aq nq cq))], [.var [.int .i64 a, .int .i64 n, .sl false 50 l]]))
  | _, _ => (false, ([], []))
def s79 : Go.Abs.Spec := fun args blk => match args, blk with
  | [.one (.sl false 53 c), .one (.fn 56 [.ptr 0 0])], [.var [.int .i64 a, .int .i64 n, .sl false 50 l]] => ((okRows c && decide (l.length < 9223372036854775808)), ([.one (.int .i64 (idxP a n l c))], [.var [.int .i64 a, .int .i64 n, .sl false 50 l]]))
  | _, _ => (false, ([], []))
def s55 : Go.Abs.Spec := fun args blk => match args, blk with
  | [.one (.sl false 53 c), .one (.fn 56 [.ptr 0 0])], [.var [.int .i64 a, .int .i64 n, .sl false 50 l]] => ((okRows c && decide (l.length < 9223372036854775808)), ([.one (.bool (inP a n l c))], [.var [.int .i64 a, .int .i64 n, .sl false 50 l]]))
  | _, _ => (false, ([], []))
def s31 : Go.Abs.Spec := fun args blk => match args, blk with
  | [.one (.sl false 53 c), .one (.sl false 53 d)], [] => ((okRows c && okRows d), ([.one (.bool (incl c d))], []))
  | _, _ => (false, ([], []))
def s33 : Go.Abs.Spec := fun args blk => match args, blk with
  | [.one (.sl false 53 c), .one (.sl false 53 d)], [] => ((okRows c && okRows d), ([.one (.bool (incl c d))], []))
  | _, _ => (false, ([], []))
def s10 : Go.Abs.Spec := fun args blk => match args, blk with
  | [.agg [.sl false 53 f1, .sl false 53 t1]], [] => ((okRows f1 && okRows t1), ([.one (.int .i64 (vCert f1 t1))], []))
  | _, _ => (false, ([], []))
def s11 : Go.Abs.Spec := fun args blk => match args, blk with
  | [.agg [.sl false 53 f1, .sl false 53 t1]], [] => ((okRows f1 && okRows t1), ([.one (.int .i64 (vCert f1 t1))], []))
  | _, _ => (false, ([], []))
def s14 : Go.Abs.Spec := fun args blk => match args, blk with
  | [.agg [.sl false 53 f1, .sl false 53 t1], .agg [.sl false 53 f2, .sl false 53 t2]], [] => ((okRows f1 && okRows t1), ([.one (.bool (eqCfg f1 f2 && eqCfg t1 t2))], []))
  | _, _ => (false, ([], []))
def s26 : Go.Abs.Spec := fun args blk => match args, blk with
  | [.one (.sl false 5 x)], [] => ((okRd x), ([.agg [.sl true 53 (decT x).1, .sl true 53 (decT x).2.1], .one (.int .i64 (decT x).2.2.1), .one (.int .i64 (decT x).2.2.2)], []))
  | _, _ => (false, ([], []))
def s27 : Go.Abs.Spec := fun args blk => match args, blk with
  | [.one (.sl false 5 x)], [] => ((okRd x), ([.agg [.sl false 53 (decT x).1, .sl false 53 (decT x).2.1], .one (.int .i64 (decT x).2.2.1), .one (.int .i64 (decT x).2.2.2)], []))
  | _, _ => (false, ([], []))
def s28 : Go.Abs.Spec := fun args blk => match args, blk with
  | [.one (.sl false 5 x), .agg [.sl false 53 f1, .sl false 53 t1]], [] => ((okTApp x f1 t1), ([.one (.sl true 5 (x ++ encT f1 t1))], []))
  | [.one (.nils), .agg [.sl false 53 f1, .sl false 53 t1]], [] => ((okTApp [] f1 t1), ([.one (.sl true 5 (encT f1 t1))], []))
  | _, _ => (false, ([], []))
def s29 : Go.Abs.Spec := fun args blk => match args, blk with
  | [.one (.sl false 5 x), .agg [.sl false 53 f1, .sl false 53 t1]], [] => ((okTApp x f1 t1), ([.one (.sl false 5 (x ++ encT f1 t1))], []))
  | [.one (.nils), .agg [.sl false 53 f1, .sl false 53 t1]], [] => ((okTApp [] f1 t1), ([.one (.sl false 5 (encT f1 t1))], []))
  | _, _ => (false, ([], []))
def s9 : Go.Abs.Spec := fun args blk => match args, blk with
  | [], [] => (true, ([.one (.bool true)], []))
  | _, _ => (false, ([], []))
def s3 : Go.Abs.Spec := fun args blk => match args, blk with
  | [.agg [.sl false 53 f1, .sl false 53 t1]], [] => ((shortRows f1 && shortRows t1), ([.one (.bool true)], []))
  | _, _ => (false, ([], []))
def s8 : Go.Abs.Spec := fun args blk => match args, blk with
  | [.agg [.sl false 53 f1, .sl false 53 t1], .one (.sl false 5 x)], [] => ((okB x && (shortRows f1 && shortRows t1)), ([.one (.bool true)], []))
  | _, _ => (false, ([], []))
def s37 : Go.Abs.Spec := fun args blk => match args, blk with
  | [.one (.sl false 53 x), .one (.ptr 0 0)], [.var [.sl false 53 f, .sl false 53 t]] => ((okSrt t && okSrt x), ([.one (.bool (newB t x))], [.var [.sl false 53 f, .sl false 53 t]]))
  | _, _ => (false, ([], []))
def s41 : Go.Abs.Spec := fun args blk => match args, blk with
  | [.one (.sl false 53 x), .one (.ptr 0 0)], [.var [.sl false 53 f, .sl false 53 t]] => ((okSrt t && (okSrt x && okLn f)), ([.one (.bool (betw f t x))], [.var [.sl false 53 f, .sl false 53 t]]))
  | _, _ => (false, ([], []))
def s36 : Go.Abs.Spec := fun args blk => match args, blk with
  | [.one (.fn 37 [.ptr 0 0]), .one (.sl false 23 l)], [.var [.sl false 53 f, .sl false 53 t]] => ((okSrt t && okSs l), ([.one (.bool (newA t l))], [.var [.sl false 53 f, .sl false 53 t]]))
  | [.one (.fn 41 [.ptr 0 0]), .one (.sl false 23 l)], [.var [.sl false 53 f, .sl false 53 t]] => ((okSrt t && (okSs l && okLn f)), ([.one (.bool (betA f t l))], [.var [.sl false 53 f, .sl false 53 t]]))
  | _, _ => (false, ([], []))
def s15 : Go.Abs.Spec := fun args blk => match args, blk with
  | [.agg [.sl false 53 f1, .sl false 53 t1], .agg [.sl false 53 f2, .sl false 53 t2]], [] => ((okSrt t1 && okSrt t2), ([.one (.bool (newB t1 t2))], []))
  | _, _ => (false, ([], []))
def s16 : Go.Abs.Spec := fun args blk => match args, blk with
  | [.agg [.sl false 53 f1, .sl false 53 t1], .agg [.sl false 53 f2, .sl false 53 t2]], [] => ((okLn t1 && okLn t2), ([.one (.bool (newR t1 t2))], []))
  | _, _ => (false, ([], []))
def s39 : Go.Abs.Spec := fun args blk => match args, blk with
  | [.agg [.sl false 53 f1, .sl false 53 t1]], [] => ((okCl f1 && okCl t1), ([.agg [.sl false 53 f1, .sl false 53 t1]], []))
  | _, _ => (false, ([], []))
def s17 : Go.Abs.Spec := fun args blk => match args, blk with
  | [.agg [.sl false 53 f1, .sl false 53 t1], .agg [.sl false 53 f2, .sl false 53 t2]], [] => ((okSrt t1 && (okSrt t2 && (okCl f1 && (okCl t1 && (okCl f2 && okCl t2))))), ([.agg [.sl false 53 (latest t1 t2 f1 f2), .sl false 53 (latest t1 t2 t1 t2)]], []))
  | _, _ => (false, ([], []))
def s18 : Go.Abs.Spec := fun args blk => match args, blk with
  | [.agg [.sl false 53 f1, .sl false 53 t1], .agg [.sl false 53 f2, .sl false 53 t2]], [] => ((okLn t1 && okLn t2), ([.agg [.sl false 53 (latestR t1 t2 f1 f2), .sl false 53 (latestR t1 t2 t1 t2)]], []))
  | _, _ => (false, ([], []))
def s20 : Go.Abs.Spec := fun args blk => match args, blk with
  | [.agg [.sl false 53 f1, .sl false 53 t1], .agg [.sl false 53 f2, .sl false 53 t2]], [] => ((okSrt t1 && (okSrt t2 && (okLn f1 && (okCl f1 && okCl t2)))), ([.one (.sl false 53 (startT f1 t1 t2))], []))
  | _, _ => (false, ([], []))
def s21 : Go.Abs.Spec := fun args blk => match args, blk with
  | [.agg [.sl false 53 f1, .sl false 53 t1], .agg [.sl false 53 f2, .sl false 53 t2]], [] => ((okLn t1 && (okLn t2 && okLn f1)), ([.one (.sl false 53 (startT f1 t1 t2))], []))
  | _, _ => (false, ([], []))
def s13 : Go.Abs.Spec := fun args blk => match args, blk with
  | [.agg [.sl false 53 f1, .sl false 53 t1], .agg [.sl false 53 f2, .sl false 53 t2]], [] => (((okSrt f1 && okSrt f2) && (okSrt t1 && okSrt t2)), ([.one (.bool (eqT f1 t1 f2 t2))], []))
  | _, _ => (false, ([], []))
def s23 : Go.Abs.Spec := fun args blk => match args, blk with
  | [.one (.sl false 53 p), .one (.int .i64 n)], [] => ((okCf p), ([.agg [.sl false 53 (gPart (gPart p n) (n % 1099511627776 / 64)), .sl false 53 (gPart p n)]], []))
  | _, _ => (false, ([], []))
def s12 : Go.Abs.Spec := fun args blk => match args, blk with
  | [.one (.sl false 25 l)], [] => ((okTs l), ([.one (.bool (validTs l))], []))
  | _, _ => (false, ([], []))
def s4 : Go.Abs.Spec := fun args blk => match args, blk with
  | [.agg [.sl false 53 f1, .sl false 53 t1], .agg [.sl false 53 f2, .sl false 53 t2]], [] => (((okArg f1 && okArg t1) && (okArg f2 && okArg t2)), ([.one (.bool true)], []))
  | _, _ => (false, ([], []))
def s5 : Go.Abs.Spec := fun args blk => match args, blk with
  | [.one (.sl false 3 l), .one (.int .i64 x), .one (.int .i64 y), .one (.int .i64 z)], [] => ((decide (l.length < 4611686018427387904)), ([.one (.bool true)], []))
  | _, _ => (false, ([], []))
def s6 : Go.Abs.Spec := fun args blk => match args, blk with
  | [.one (.sl false 3 l), .one (.int .i64 x), .one (.int .i64 y), .one (.int .i64 z)], [] => ((decide (l.length < 4611686018427387904)), ([.one (.bool true)], []))
  | _, _ => (false, ([], []))
def s7 : Go.Abs.Spec := fun args blk => match args, blk with
  | [.one (.sl false 3 l), .one (.int .i64 x), .one (.int .i64 y)], [] => ((decide (l.length < 4611686018427387904)), ([.one (.bool true)], []))
  | _, _ => (false, ([], []))
def L : List (Nat × Go.Abs.Spec) := []
def L90 : List (Nat × Go.Abs.Spec) := (90, s90) :: L
def L91 : List (Nat × Go.Abs.Spec) := (91, s91) :: L90
def L93 : List (Nat × Go.Abs.Spec) := (93, s93) :: L91
def L81 : List (Nat × Go.Abs.Spec) := (81, s81) :: L93
def L94 : List (Nat × Go.Abs.Spec) := (94, s94) :: L81
def L76 : List (Nat × Go.Abs.Spec) := (76, s76) :: L94
def L82 : List (Nat × Go.Abs.Spec) := (82, s82) :: L76
def L53 : List (Nat × Go.Abs.Spec) := (53, s53) :: L82
def L58 : List (Nat × Go.Abs.Spec) := (58, s58) :: L53
def L92 : List (Nat × Go.Abs.Spec) := (92, s92) :: L58
def L78 : List (Nat × Go.Abs.Spec) := (78, s78) :: L92
def L77 : List (Nat × Go.Abs.Spec) := (77, s77) :: L78
def L54 : List (Nat × Go.Abs.Spec) := (54, s54) :: L77
def L59 : List (Nat × Go.Abs.Spec) := (59, s59) :: L54
def L40 : List (Nat × Go.Abs.Spec) := (40, s40) :: L59
def L72 : List (Nat × Go.Abs.Spec) := (72, s72) :: L40
def L89 : List (Nat × Go.Abs.Spec) := (89, s89) :: L72
def L68 : List (Nat × Go.Abs.Spec) := (68, s68) :: L89
def L70 : List (Nat × Go.Abs.Spec) := (70, s70) :: L68
def L87 : List (Nat × Go.Abs.Spec) := (87, s87) :: L70
def L73 : List (Nat × Go.Abs.Spec) := (73, s73) :: L87
def L69 : List (Nat × Go.Abs.Spec) := (69, s69) :: L73
def L96 : List (Nat × Go.Abs.Spec) := (96, s96) :: L69
def L88 : List (Nat × Go.Abs.Spec) := (88, s88) :: L96
def L74 : List (Nat × Go.Abs.Spec) := (74, s74) :: L88
def L75 : List (Nat × Go.Abs.Spec) := (75, s75) :: L74
def L71 : List (Nat × Go.Abs.Spec) := (71, s71) :: L75
def L46 : List (Nat × Go.Abs.Spec) := (46, s46) :: L71
def L43 : List (Nat × Go.Abs.Spec) := (43, s43) :: L46
def L44 : List (Nat × Go.Abs.Spec) := (44, s44) :: L43
def L66 : List (Nat × Go.Abs.Spec) := (66, s66) :: L44
def L45 : List (Nat × Go.Abs.Spec) := (45, s45) :: L66
def L22 : List (Nat × Go.Abs.Spec) := (22, s22) :: L45
def L30 : List (Nat × Go.Abs.Spec) := (30, s30) :: L22
def L32 : List (Nat × Go.Abs.Spec) := (32, s32) :: L30
def L19 : List (Nat × Go.Abs.Spec) := (19, s19) :: L32
def L51 : List (Nat × Go.Abs.Spec) := (51, s51) :: L19
def L52 : List (Nat × Go.Abs.Spec) := (52, s52) :: L51
def L49 : List (Nat × Go.Abs.Spec) := (49, s49) :: L52
def L50 : List (Nat × Go.Abs.Spec) := (50, s50) :: L49
def L86 : List (Nat × Go.Abs.Spec) := (86, s86) :: L50
def L65 : List (Nat × Go.Abs.Spec) := (65, s65) :: L86
def L63 : List (Nat × Go.Abs.Spec) := (63, s63) :: L65
def L83 : List (Nat × Go.Abs.Spec) := (83, s83) :: L63
def L61 : List (Nat × Go.Abs.Spec) := (61, s61) :: L83
def L38 : List (Nat × Go.Abs.Spec) := (38, s38) :: L61
def L35 : List (Nat × Go.Abs.Spec) := (35, s35) :: L38
def L62 : List (Nat × Go.Abs.Spec) := (62, s62) :: L35
def L64 : List (Nat × Go.Abs.Spec) := (64, s64) :: L62
def L42 : List (Nat × Go.Abs.Spec) := (42, s42) :: L64
def L48 : List (Nat × Go.Abs.Spec) := (48, s48) :: L42
def L25 : List (Nat × Go.Abs.Spec) := (25, s25) :: L48
def L60 : List (Nat × Go.Abs.Spec) := (60, s60) :: L25
def L34 : List (Nat × Go.Abs.Spec) := (34, s34) :: L60
def L67 : List (Nat × Go.Abs.Spec) := (67, s67) :: L34
def L47 : List (Nat × Go.Abs.Spec) := (47, s47) :: L67
def L24 : List (Nat × Go.Abs.Spec) := (24, s24) :: L47
def L80 : List (Nat × Go.Abs.Spec) := (80, s80) :: L24
def L57 : List (Nat × Go.Abs.Spec) := (57, s57) :: L80
def L56 : List (Nat × Go.Abs.Spec) := (56, s56) :: L57
def L79 : List (Nat × Go.Abs.Spec) := (79, s79) :: L56
def L55 : List (Nat × Go.Abs.Spec) := (55, s55) :: L79
def L31 : List (Nat × Go.Abs.Spec) := (31, s31) :: L55
def L33 : List (Nat × Go.Abs.Spec) := (33, s33) :: L31
def L10 : List (Nat × Go.Abs.Spec) := (10, s10) :: L33
def L11 : List (Nat × Go.Abs.Spec) := (11, s11) :: L10
def L14 : List (Nat × Go.Abs.Spec) := (14, s14) :: L11
def L26 : List (Nat × Go.Abs.Spec) := (26, s26) :: L14
def L27 : List (Nat × Go.Abs.Spec) := (27, s27) :: L26
def L28 : List (Nat × Go.Abs.Spec) := (28, s28) :: L27
def L29 : List (Nat × Go.Abs.Spec) := (29, s29) :: L28
def L9 : List (Nat × Go.Abs.Spec) := (9, s9) :: L29
def L3 : List (Nat × Go.Abs.Spec) := (3, s3) :: L9
def L8 : List (Nat × Go.Abs.Spec) := (8, s8) :: L3
def L37 : List (Nat × Go.Abs.Spec) := (37, s37) :: L8
def L41 : List (Nat × Go.Abs.Spec) := (41, s41) :: L37
def L36 : List (Nat × Go.Abs.Spec) := (36, s36) :: L41
def L15 : List (Nat × Go.Abs.Spec) := (15, s15) :: L36
def L16 : List (Nat × Go.Abs.Spec) := (16, s16) :: L15
def L39 : List (Nat × Go.Abs.Spec) := (39, s39) :: L16
def L17 : List (Nat × Go.Abs.Spec) := (17, s17) :: L39
def L18 : List (Nat × Go.Abs.Spec) := (18, s18) :: L17
def L20 : List (Nat × Go.Abs.Spec) := (20, s20) :: L18
def L21 : List (Nat × Go.Abs.Spec) := (21, s21) :: L20
def L13 : List (Nat × Go.Abs.Spec) := (13, s13) :: L21
def L23 : List (Nat × Go.Abs.Spec) := (23, s23) :: L13
def L12 : List (Nat × Go.Abs.Spec) := (12, s12) :: L23
def L4 : List (Nat × Go.Abs.Spec) := (4, s4) :: L12
def L5 : List (Nat × Go.Abs.Spec) := (5, s5) :: L4
def L6 : List (Nat × Go.Abs.Spec) := (6, s6) :: L5
def L7 : List (Nat × Go.Abs.Spec) := (7, s7) :: L6
theorem tabs : tabB Try.prog E tyTab = true := by kernel_rfl
theorem good : Go.Abs.Good Try.prog E := good_of (l := tyTab) rfl tabs

end Go.Proofs.Ytdgijohgncchiaa
