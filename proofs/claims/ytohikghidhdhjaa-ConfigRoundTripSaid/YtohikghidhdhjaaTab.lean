/-
  The tables of this seat: types, functions with their notes, contracts. Printed by a program of our own.
-/
import Derived.Test.YtohikghidhdhjaaA28
import Derived.Test.YtohikghidhdhjaaDefs
import Derived.Test.YtohikghidhdhjaaProg
namespace Go.Proofs.Ytohikghidhdhjaa
open Go.Abs

def tyTab : List (Nat × Ty) := [
  (3, ⟨.int .i64, 1, 8, [.int .i64], false⟩),
  (4, ⟨.bool, 1, 1, [.bool], false⟩),
  (5, ⟨.int .u8, 1, 1, [.int .u8], false⟩),
  (9, ⟨.str, 1, 16, [.str], false⟩),
  (22, ⟨.slice 45, 1, 24, [.slice 45], false⟩),
  (23, ⟨.slice 45, 1, 24, [.slice 45], false⟩),
  (25, ⟨.int .i64, 1, 8, [.int .i64], false⟩),
  (29, ⟨.slice 23, 1, 24, [.slice 23], false⟩),
  (32, ⟨.slice 67, 1, 24, [.slice 67], false⟩),
  (36, ⟨.slice 3, 1, 24, [.slice 3], false⟩),
  (43, ⟨.slice 63, 1, 24, [.slice 63], false⟩),
  (45, ⟨.struct [(0, 3), (1, 3), (2, 43)], 3, 40, [.int .i64, .int .i64, .slice 63], false⟩),
  (54, ⟨.slice 5, 1, 24, [.slice 5], false⟩),
  (61, ⟨.struct [(0, 3), (1, 3), (2, 3)], 3, 24, [.int .i64, .int .i64, .int .i64], true⟩),
  (63, ⟨.struct [(0, 3), (1, 3), (2, 3), (3, 3), (4, 61)], 7, 56, [.int .i64, .int .i64, .int .i64, .int .i64, .int .i64, .int .i64, .int .i64], true⟩),
  (67, ⟨.struct [(0, 3), (1, 3)], 2, 16, [.int .i64, .int .i64], true⟩),
  (78, ⟨.int .u64, 1, 8, [.int .u64], false⟩),
  (95, ⟨.int .u64, 1, 8, [.int .u64], false⟩),
  (97, ⟨.struct [(0, 54), (1, 3), (2, 25)], 3, 40, [.slice 5, .int .i64, .int .i64], false⟩),
  (99, ⟨.ptr 3, 1, 8, [.ptr], false⟩),
  (100, ⟨.slice 99, 1, 24, [.slice 99], false⟩),
  (107, ⟨.ptr 97, 1, 8, [.ptr], false⟩)]

noncomputable def codeOf (f : Func) : Code := match f.body with | some c => c | none => .skip
noncomputable def F85 : AFunc := ⟨codeOf Try.f85, .leaf, [3, 3, 3, 4], [.tmp 8], [], [], true⟩
noncomputable def F86 : AFunc := ⟨codeOf Try.f86, .leaf, [61], [.tmp 2], [], [], true⟩
noncomputable def F88 : AFunc := ⟨codeOf Try.f88, .leaf, [3], [.tmp 2], [], [], true⟩
noncomputable def F74 : AFunc := ⟨codeOf Try.f74, .leaf, [3], [.tmp 2], [], [], true⟩
noncomputable def F89 : AFunc := ⟨codeOf Try.f89, .leaf, [61], [.tmp 2], [], [], true⟩
noncomputable def F71 : AFunc := ⟨codeOf Try.f71, .leaf, [63], [.tmp 2], [], [], true⟩
noncomputable def F75 : AFunc := ⟨codeOf Try.f75, (.seq none .leaf (.seq none .leaf (.seq (some []) (.sub (.seq (some [(1, false), (3, false), (4, false), (5, false), (6, false), (19, false)]) .leaf (.cond .leaf (.seq (some [(1, false), (3, false), (4, false), (5, false), (6, false), (34, false)]) .leaf (.cond .leaf (.seq (some [(1, false), (3, false), (4, false), (5, false), (6, false), (51, false)]) .leaf (.cond .leaf (.seq (some [(1, false), (6, false), (77, false)]) .leaf .leaf)))))))) .leaf))), [63], [.tmp 2], [], [], true⟩
noncomputable def F44 : AFunc := ⟨codeOf Try.f44, (.seq none (.reg [1] []) (.seq none .leaf (.seq none (.seq none .leaf (.sub (.loop [(1, true), (38, false), (39, false), (40, false)] (.seq none .leaf (.seq none .leaf (.seq none (.sub (.seq none .leaf (.seq none .leaf (.seq none .leaf (.sub (.loop [(1, true), (4, false), (38, false), (39, false), (40, false), (53, false), (54, false), (55, false)] .leaf)))))) .leaf)))))) .leaf))), [45], [.tmp 2], [], [], true⟩
noncomputable def F46 : AFunc := ⟨codeOf Try.f46, (.seq none (.reg [1] []) (.seq (some [(1, true)]) (.sub (.seq (some [(1, true), (6, false)]) .leaf .leaf)) (.seq (some []) (.seq none .leaf (.sub (.loop [(1, true), (3, false)] (.seq (some [(1, true), (3, false)]) .leaf (.seq (some [(1, true), (3, false)]) (.sub (.seq (some [(1, true), (3, false)]) .leaf (.seq none .leaf (.sub (.loop [(1, true), (3, false), (5, false)] (.seq (some [(1, true), (3, false), (5, false)]) .leaf (.seq (some [(1, true), (3, false), (5, false)]) (.sub (.seq (some [(1, true), (3, false), (5, false), (79, false)]) .leaf .leaf)) .leaf))))))) .leaf))))) .leaf))), [45], [.tmp 2], [], [], true⟩
noncomputable def F87 : AFunc := ⟨codeOf Try.f87, .leaf, [3], [.tmp 2], [], [], true⟩
noncomputable def F73 : AFunc := ⟨codeOf Try.f73, .leaf, [3, 3], [.tmp 4], [], [], true⟩
noncomputable def F72 : AFunc := ⟨codeOf Try.f72, (.seq none .leaf (.seq none .leaf (.seq none (.seq none .leaf (.sub (.loop [(3, false), (6, false), (7, false), (8, false)] .leaf))) .leaf))), [36], [.tmp 2], [], [], true⟩
noncomputable def F45 : AFunc := ⟨codeOf Try.f45, (.seq none (.reg [2, 3] []) .leaf), [45, 45], [.tmp 4], [], [], true⟩
noncomputable def F47 : AFunc := ⟨codeOf Try.f47, (.seq none (.reg [2, 3] []) .leaf), [45, 45], [.tmp 4], [], [], true⟩
noncomputable def F53 : AFunc := ⟨codeOf Try.f53, (.seq none (.reg [2, 3] []) (.seq none .leaf (.seq none (.seq none .leaf (.sub (.loop [(2, true), (3, true), (5, false)] .leaf))) .leaf))), [45, 45], [.tmp 4], [], [], true⟩
noncomputable def F63 : AFunc := ⟨codeOf Try.f63, (.seq none (.reg [4] []) (.seq none (.reg [5] []) (.seq none (.sub (.loop [(0, true), (1, false), (5, true)] (.seq none .leaf (.sub (.seq none (.reg [5, 8] []) .leaf))))) (.seq none (.reg [5, 16] []) (.seq none (.reg [4, 21, 26] []) .leaf))))), [54, 78], [.tmp 4], [], [0], true⟩
noncomputable def F83 : AFunc := ⟨codeOf Try.f83, (.seq none (.reg [4] []) (.seq none (.reg [5] []) (.seq none (.sub (.loop [(1, false), (5, true)] (.seq none .leaf (.sub (.seq none (.reg [5, 11] []) .leaf))))) (.seq none (.reg [4, 20] []) .leaf)))), [54, 78], [.tmp 4], [], [0], true⟩
noncomputable def F65 : AFunc := ⟨codeOf Try.f65, (.seq none .leaf (.scope [(0, false), (5, false), (6, false)] .leaf .leaf)), [54], [.tmp 2, .tmp 3, .tmp 4], [], [], true⟩
noncomputable def F69 : AFunc := ⟨codeOf Try.f69, (.seq none .leaf (.seq none .leaf (.seq none (.seq none .leaf (.sub (.loop [(0, false), (5, false), (6, false)] .leaf))) .leaf))), [54], [.tmp 2, .tmp 3, .tmp 4], [], [], true⟩
noncomputable def F82 : AFunc := ⟨codeOf Try.f82, .leaf, [107], [.tmp 2], [], [], true⟩
noncomputable def F64 : AFunc := ⟨codeOf Try.f64, (.seq none (.reg [3, 4] []) (.seq none (.reg [5] []) (.seq none (.seq none .leaf (.sub (.loop [(0, true), (5, true), (20, false), (21, false), (22, false)] (.seq none .leaf (.seq none .leaf (.seq none (.sub (.seq none .leaf (.reg [5, 26] []))) .leaf)))))) (.seq none .leaf (.seq none (.seq none .leaf (.sub (.loop [(0, true), (8, false), (47, false), (48, false), (49, false)] .leaf))) (.seq none (.reg [4, 58, 63] []) .leaf)))))), [54, 45], [.tmp 4], [], [0], true⟩
noncomputable def F66 : AFunc := ⟨codeOf Try.f66, (.seq none .leaf (.seq none (.reg [12, 13] []) (.seq none (.reg [15] []) (.seq none .leaf (.seq none .leaf (.seq none .leaf (.seq none (.seq none .leaf (.sub (.loop [(2, false), (5, false), (6, false), (7, false), (8, false)] (.seq none .leaf (.seq none (.sub (.seq none .leaf (.seq none .leaf (.reg [58, 61] [])))) .leaf))))) (.seq none .leaf (.seq none (.seq none .leaf (.cond (.seq none (.reg [72] []) .leaf) .leaf)) (.seq none (.reg [75] []) .leaf)))))))))), [54], [.cell 2 45, .tmp 3, .tmp 4], [], [0], true⟩
noncomputable def F93 : AFunc := ⟨codeOf Try.f93, .leaf, [54], [.tmp 2, .tmp 3, .tmp 4], [], [], true⟩
noncomputable def F84 : AFunc := ⟨codeOf Try.f84, (.seq none (.reg [4] []) (.seq none (.reg [7] []) (.seq none .leaf (.seq none (.seq none .leaf (.sub (.loop [(0, false), (1, false), (7, true), (8, false), (9, false)] (.seq none .leaf (.seq none (.sub (.seq none .leaf (.seq none (.seq none .leaf (.cond (.seq none (.reg [4] []) .leaf) .leaf)) (.seq none (.reg [7, 29] []) .leaf)))) .leaf))))) (.seq none (.reg [4, 36] []) .leaf))))), [54, 3], [.tmp 4, .tmp 5, .tmp 6], [], [0], true⟩
noncomputable def F67 : AFunc := ⟨codeOf Try.f67, (.seq none (.reg [4] []) (.seq none (.seq none .leaf (.sub (.loop [(0, false), (1, false), (5, false)] (.seq none .leaf (.seq none (.sub (.reg [0] [])) .leaf))))) (.seq none (.reg [4, 19] []) .leaf))), [54, 36], [.tmp 4], [], [], true⟩
noncomputable def F68 : AFunc := ⟨codeOf Try.f68, (.seq none (.reg [3, 4] []) (.seq none (.reg [0] []) (.seq none (.seq none .leaf (.sub (.loop [(0, true), (3, true), (5, false)] (.seq none .leaf (.seq none (.sub (.seq none .leaf (.reg [0] []))) .leaf))))) (.seq none (.reg [4, 49] []) .leaf)))), [54, 45], [.tmp 4], [], [], true⟩
noncomputable def F70 : AFunc := ⟨codeOf Try.f70, (.seq none .leaf (.seq none .leaf (.seq none (.seq none .leaf (.cond (.seq none (.reg [22] []) .leaf) .leaf)) (.seq none (.seq none .leaf (.cond (.seq none (.reg [28] []) .leaf) .leaf)) (.seq none (.reg [35] []) (.seq none (.seq none .leaf (.sub (.loop [(0, false), (2, false), (5, false), (6, false), (8, false), (9, false)] (.seq none .leaf (.seq none (.sub (.seq none .leaf (.seq none (.seq none .leaf (.cond (.seq none (.reg [53] []) .leaf) .leaf)) (.seq none (.reg [56, 81] []) .leaf)))) .leaf))))) (.seq none (.seq none .leaf (.seq none .leaf (.cond (.seq none (.reg [90] []) .leaf) .leaf))) (.seq none (.reg [92] []) .leaf)))))))), [54], [.cell 2 45, .tmp 3, .tmp 4], [], [0], true⟩
noncomputable def F36 : AFunc := ⟨codeOf Try.f36, .leaf, [3, 3], [.tmp 4], [], [], true⟩
noncomputable def F59 : AFunc := ⟨codeOf Try.f59, (.seq none .leaf (.seq none .leaf (.seq none (.seq none .leaf (.sub (.loop [(1, false), (2, false), (7, false), (8, false)] .leaf))) .leaf))), [3, 3, 3], [.tmp 6], [], [], true⟩
noncomputable def F37 : AFunc := ⟨codeOf Try.f37, .leaf, [36, 3], [.tmp 4], [], [], true⟩
noncomputable def F80 : AFunc := ⟨codeOf Try.f80, .leaf, [3], [.cell 2 61], [], [], true⟩
noncomputable def F60 : AFunc := ⟨codeOf Try.f60, .leaf, [3], [.cell 2 63], [], [], true⟩
noncomputable def F28 : AFunc := ⟨codeOf Try.f28, (.seq none (.reg [2] []) (.seq none (.reg [3] []) (.seq none .leaf (.seq none (.seq none .leaf (.sub (.loop [(0, false), (3, true), (4, false), (5, false)] (.seq none .leaf (.seq none (.sub (.seq none .leaf (.sub (.loop [(0, false), (3, true), (4, false), (5, false), (6, false)] (.seq none .leaf (.seq none (.sub (.seq none (.reg [29, 30] []) (.seq none .leaf (.seq none (.seq none .leaf (.cond (.reg [62, 65] []) .leaf)) (.seq none (.reg [3, 67] []) .leaf))))) .leaf)))))) .leaf))))) (.seq none (.reg [2, 73] []) .leaf))))), [36], [.tmp 2], [], [0], true⟩
noncomputable def F13 : AFunc := ⟨codeOf Try.f13, (.seq none .leaf (.seq none (.seq none .leaf (.sub (.loop [(0, false), (6, false), (7, false), (8, false)] (.seq none .leaf (.seq none .leaf (.seq none (.sub (.seq none (.reg [12] []) .leaf)) .leaf)))))) .leaf)), [23], [.tmp 2], [], [], true⟩
noncomputable def F14 : AFunc := ⟨codeOf Try.f14, (.seq none .leaf (.seq none (.seq none .leaf (.sub (.loop [(0, false), (3, false)] .leaf))) .leaf)), [23], [.tmp 2], [], [], true⟩
noncomputable def F12 : AFunc := ⟨codeOf Try.f12, .leaf, [], [.tmp 0], [], [], true⟩
noncomputable def F3 : AFunc := ⟨codeOf Try.f3, .leaf, [23], [.tmp 2], [], [], true⟩
noncomputable def F23 : AFunc := ⟨codeOf Try.f23, (.seq none .leaf (.seq none .leaf (.seq none (.seq none .leaf (.sub (.loop [(0, false), (1, false), (5, false)] .leaf))) .leaf))), [23, 23], [.tmp 4], [], [], true⟩
noncomputable def F40 : AFunc := ⟨codeOf Try.f40, (.seq none (.reg [4] []) (.seq none (.reg [5] []) (.seq none (.seq none .leaf (.sub (.loop [(0, true), (5, true), (12, false), (13, false), (14, false)] (.seq none .leaf (.seq none .leaf (.seq none (.sub (.seq none (.reg [17] []) (.reg [5, 18] []))) .leaf)))))) (.seq none (.reg [4, 23, 28] []) .leaf)))), [54, 23], [.tmp 4], [], [0], true⟩
noncomputable def F42 : AFunc := ⟨codeOf Try.f42, (.seq none (.reg [4] []) (.seq none (.reg [0] []) (.seq none (.seq none .leaf (.sub (.loop [(0, true), (1, false), (5, false)] (.seq none .leaf (.seq none (.sub (.reg [0] [])) .leaf))))) (.seq none (.reg [4, 23] []) .leaf)))), [54, 23], [.tmp 4], [], [], true⟩
noncomputable def F41 : AFunc := ⟨codeOf Try.f41, (.seq none (.reg [2] []) (.seq none .leaf (.seq none (.seq none .leaf (.cond (.seq none (.reg [2] []) .leaf) .leaf)) (.seq none (.seq none .leaf (.cond (.seq none (.reg [2] []) .leaf) .leaf)) (.seq none (.reg [8] []) (.seq none (.seq none .leaf (.sub (.loop [(0, false), (6, false), (8, true), (24, false), (25, false)] (.seq none .leaf (.seq none .leaf (.seq none (.sub (.seq none (.reg [27, 32] []) (.seq none (.seq none .leaf (.cond (.seq none (.reg [2] []) .leaf) .leaf)) (.seq none (.reg [8, 38] []) .leaf)))) .leaf)))))) (.seq none (.seq none .leaf (.seq none .leaf (.cond (.seq none (.reg [2] []) .leaf) .leaf))) (.seq none (.reg [2, 51] []) .leaf)))))))), [54], [.tmp 2, .tmp 3, .tmp 4], [], [0], true⟩
noncomputable def F43 : AFunc := ⟨codeOf Try.f43, (.seq none (.reg [2] []) (.seq none .leaf (.seq none (.seq none .leaf (.cond (.seq none (.reg [2] []) .leaf) .leaf)) (.seq none (.seq none .leaf (.cond (.seq none (.reg [2] []) .leaf) .leaf)) (.seq none (.reg [8] []) (.seq none (.seq none .leaf (.sub (.loop [(0, false), (5, false), (6, false), (8, true), (9, false)] (.seq none .leaf (.seq none (.sub (.seq none (.reg [31, 36] []) (.seq none (.seq none .leaf (.cond (.seq none (.reg [2] []) .leaf) .leaf)) (.seq none (.reg [8, 42] []) .leaf)))) .leaf))))) (.seq none (.seq none .leaf (.seq none .leaf (.cond (.seq none (.reg [2] []) .leaf) .leaf))) (.seq none (.reg [2, 54] []) .leaf)))))))), [54], [.tmp 2, .tmp 3, .tmp 4], [], [0], true⟩
noncomputable def F10 : AFunc := ⟨codeOf Try.f10, .leaf, [23, 54], [.tmp 4], [], [], true⟩
noncomputable def F11 : AFunc := ⟨codeOf Try.f11, .leaf, [54], [.tmp 2], [], [], true⟩
noncomputable def F79 : AFunc := ⟨codeOf Try.f79, (.seq none (.reg [2] []) (.seq none (.seq none .leaf (.cond (.seq none (.reg [2] []) .leaf) .leaf)) (.seq none (.reg [2] []) .leaf))), [43], [.tmp 2], [], [0], true⟩
noncomputable def F57 : AFunc := ⟨codeOf Try.f57, (.seq none (.reg [1] []) (.seq none (.reg [5] []) (.seq none (.reg [7] []) .leaf))), [45], [.cell 2 45], [], [], true⟩
noncomputable def F55 : AFunc := ⟨codeOf Try.f55, (.seq none (.reg [1] []) .leaf), [45], [.tmp 2], [], [], true⟩
noncomputable def F76 : AFunc := ⟨codeOf Try.f76, (.seq none (.reg [4] []) (.seq none .leaf (.seq none .leaf (.seq none (.sub (.loop [(0, false), (2, false), (4, true), (8, false), (9, false), (10, false)] .leaf)) .leaf)))), [23, 45, 65], [.tmp 6, .tmp 7], [], [], true⟩
noncomputable def F51 : AFunc := ⟨codeOf Try.f51, (.seq none (.reg [3] []) .leaf), [23, 45], [.tmp 4], [], [], true⟩
noncomputable def F19 : AFunc := ⟨codeOf Try.f19, (.seq none .leaf (.seq none (.seq none .leaf (.sub (.loop [(0, false), (7, false), (8, false), (9, false)] (.seq none .leaf (.seq none .leaf (.seq none (.sub (.seq none (.reg [12] []) .leaf)) .leaf)))))) .leaf)), [23, 23], [.tmp 4], [], [], true⟩
noncomputable def F21 : AFunc := ⟨codeOf Try.f21, .leaf, [23, 23], [.tmp 4], [], [], true⟩
noncomputable def F92 : AFunc := ⟨codeOf Try.f92, .leaf, [67, 3], [.tmp 4], [], [], true⟩
noncomputable def F91 : AFunc := ⟨codeOf Try.f91, (.seq none .leaf (.seq none .leaf (.seq none .leaf (.seq none (.sub (.loop [(0, false), (1, false), (2, false), (8, false), (9, false), (10, false)] .leaf)) .leaf)))), [32, 3, 106], [.tmp 6, .tmp 7], [], [], true⟩
noncomputable def F81 : AFunc := ⟨codeOf Try.f81, .leaf, [32, 3], [.tmp 4, .tmp 5], [], [], true⟩
noncomputable def F62 : AFunc := ⟨codeOf Try.f62, .leaf, [32, 3], [.tmp 4], [], [], true⟩
noncomputable def F17 : AFunc := ⟨codeOf Try.f17, (.seq none (.reg [2] []) (.seq none (.reg [3, 1000003] []) (.seq none (.seq none .leaf (.sub (.loop [(3, true), (7, false), (8, false), (9, false)] (.seq none .leaf (.seq none .leaf (.seq none (.sub (.seq none (.reg [12] []) (.seq none .leaf (.seq none .leaf (.cond .leaf (.reg [3, 37] [])))))) .leaf)))))) (.seq none (.reg [2, 44, 2000044] []) .leaf)))), [23], [.tmp 2], [], [], true⟩
noncomputable def F58 : AFunc := ⟨codeOf Try.f58, (.seq none (.reg [2] []) .leaf), [45, 3], [.tmp 3], [], [], true⟩
noncomputable def F61 : AFunc := ⟨codeOf Try.f61, (.seq none (.reg [2] []) .leaf), [45, 3], [.tmp 3], [], [], true⟩
noncomputable def F54 : AFunc := ⟨codeOf Try.f54, (.seq none (.reg [4] []) (.seq none (.reg [5, 1000005] []) (.seq none (.seq none .leaf (.sub (.loop [(1, false), (5, true), (8, false), (9, false), (10, false)] (.seq none .leaf (.seq none .leaf (.seq none (.sub (.seq none (.reg [13] []) (.seq none .leaf (.cond (.reg [5, 17] []) .leaf)))) .leaf)))))) (.seq none (.reg [4, 23] []) .leaf)))), [23, 72], [.tmp 4], [], [], true⟩
noncomputable def F24 : AFunc := ⟨codeOf Try.f24, (.seq none (.reg [4] []) (.scope [(0, false), (1, false)] (.seq none (.reg [5] [(1, ⟨[.one (.msl 45 0)], [[.arrp 45]]⟩)]) (.seq none .leaf (.seq none (.seq none .leaf (.sub (.loop [(5, true), (13, false), (14, false), (15, false)] (.seq none .leaf (.seq none .leaf (.seq none (.sub (.seq none (.reg [18] []) (.seq none (.seq none .leaf (.sub (.loop [(5, true), (7, false), (13, false), (14, false), (15, false), (19, false), (20, false), (21, false)] (.seq none .leaf (.seq none .leaf (.seq none (.sub (.seq none (.reg [25] []) (.seq none .leaf (.sub (.seq none .leaf (.cond .leaf (.seq none .leaf (.cond (.seq none (.reg [5] []) .leaf) .leaf)))))))) .leaf)))))) (.reg [5, 42] [])))) .leaf)))))) (.seq none (.reg [4, 48, 2000004] []) .leaf)))) .leaf)), [23, 23], [.tmp 4], [], [], true⟩
noncomputable def F26 : AFunc := ⟨codeOf Try.f26, (.seq none (.reg [3, 4] []) (.seq none (.reg [4, 2000004] [(2, ⟨[.one (.msl 45 1)], [[.sl false 45], [.arrp 45]]⟩)]) .leaf)), [23, 23], [.tmp 4], [], [], true⟩
noncomputable def F33 : AFunc := ⟨codeOf Try.f33, (.seq none (.reg [3, 4] []) (.seq none (.reg [4, 2000004] [(2, ⟨[.one (.msl 45 1)], [[.sl false 67], [.arrp 45]]⟩)]) .leaf)), [23, 32], [.tmp 4], [], [], true⟩
noncomputable def F34 : AFunc := ⟨codeOf Try.f34, (.seq none (.reg [3, 4] []) (.seq none (.seq none .leaf (.seq none .leaf (.cond (.seq none (.reg [4] []) .leaf) .leaf))) (.seq none (.seq none .leaf (.cond (.seq none (.reg [4] []) .leaf) .leaf)) (.seq none (.seq none .leaf (.cond (.seq none (.reg [4] []) .leaf) .leaf)) (.seq none (.reg [4] []) .leaf))))), [23, 45], [.tmp 4, .tmp 5], [], [], true⟩
noncomputable def F52 : AFunc := ⟨codeOf Try.f52, (.seq none (.reg [3] []) (.seq none (.seq none .leaf (.sub (.loop [(0, false), (3, true), (5, false)] .leaf))) .leaf)), [23, 45], [.tmp 4], [], [], true⟩
noncomputable def F20 : AFunc := ⟨codeOf Try.f20, (.seq none .leaf (.seq none (.seq none .leaf (.sub (.loop [(0, false), (1, false), (5, false)] .leaf))) .leaf)), [23, 23], [.tmp 4], [], [], true⟩
noncomputable def F22 : AFunc := ⟨codeOf Try.f22, .leaf, [23, 23], [.tmp 4], [], [], true⟩
noncomputable def F25 : AFunc := ⟨codeOf Try.f25, (.seq none (.reg [4] []) (.seq none (.reg [5] []) (.seq none .leaf (.seq none (.sub (.loop [(0, false), (1, false), (5, true), (6, false), (7, false)] (.seq none .leaf (.sub (.sub (.seq none .leaf (.cond (.seq none (.reg [5, 52] []) .leaf) (.seq none .leaf (.cond (.seq none (.reg [5, 78] []) .leaf) (.seq none (.reg [5, 18] []) .leaf)))))))))) (.seq none (.reg [4, 87] []) .leaf))))), [23, 23], [.tmp 4], [], [], true⟩
noncomputable def F27 : AFunc := ⟨codeOf Try.f27, (.seq none (.reg [4] []) (.seq none (.reg [5] []) (.seq none (.seq none .leaf (.sub (.loop [(0, false), (1, false), (5, true), (6, false)] (.seq none .leaf (.seq none (.sub (.seq none .leaf (.cond (.reg [5, 19] []) .leaf))) .leaf))))) (.seq none (.reg [4, 26] []) .leaf)))), [23, 23], [.tmp 4], [], [], true⟩
noncomputable def F48 : AFunc := ⟨codeOf Try.f48, (.seq none .leaf (.seq none (.seq none .leaf (.sub (.loop [(0, false), (1, false), (5, false)] (.seq none .leaf (.seq none (.sub (.seq none .leaf (.sub (.loop [(0, false), (1, false), (5, false), (6, false)] .leaf)))) .leaf))))) .leaf)), [23, 23], [.tmp 4], [], [], true⟩
noncomputable def F15 : AFunc := ⟨codeOf Try.f15, (.seq none .leaf (.seq none (.seq none .leaf (.sub (.loop [(0, false), (3, false)] (.seq none .leaf (.seq none (.sub (.seq none .leaf (.seq none .leaf (.sub (.loop [(0, false), (3, false), (4, false)] .leaf))))) .leaf))))) .leaf)), [29], [.tmp 2], [], [], true⟩
noncomputable def F50 : AFunc := ⟨codeOf Try.f50, (.seq none .leaf (.seq none (.seq none .leaf (.sub (.loop [(0, false), (1, false), (5, false)] .leaf))) .leaf)), [32, 3], [.tmp 4], [], [], true⟩
noncomputable def F49 : AFunc := ⟨codeOf Try.f49, (.seq none (.reg [6] []) (.seq none (.seq none .leaf (.cond (.seq none (.reg [6, 20] []) .leaf) .leaf)) (.seq none (.reg [7] []) (.seq none .leaf (.seq none (.seq none .leaf (.sub (.loop [(0, true), (1, false), (2, false), (7, true), (8, false), (9, false)] (.seq none .leaf (.seq none (.sub (.seq none (.seq none .leaf (.cond (.seq none (.reg [7, 40] []) .leaf) .leaf)) (.seq none .leaf (.cond (.reg [7, 53] []) .leaf)))) .leaf))))) (.seq none (.seq none .leaf (.cond (.reg [7, 62] []) .leaf)) (.seq none (.reg [6, 68] []) .leaf))))))), [32, 3, 3], [.tmp 6], [], [], true⟩
noncomputable def F18 : AFunc := ⟨codeOf Try.f18, (.seq none (.reg [2] []) (.seq none (.reg [3] []) (.seq none (.seq none .leaf (.sub (.loop [(0, false), (3, false), (4, false)] (.seq none .leaf (.seq none (.sub (.reg [3] [])) .leaf))))) (.seq none (.reg [2, 26] []) .leaf)))), [23], [.tmp 2], [], [], true⟩
noncomputable def F16 : AFunc := ⟨codeOf Try.f16, (.seq none .leaf (.seq none .leaf (.seq none (.seq none .leaf (.sub (.loop [(0, false), (1, false), (5, false)] .leaf))) .leaf))), [32, 32], [.tmp 4], [], [], true⟩
noncomputable def F30 : AFunc := ⟨codeOf Try.f30, (.seq none (.reg [4] []) (.seq none (.reg [5] []) (.seq none (.seq none .leaf (.sub (.loop [(1, false), (5, false), (6, false)] (.seq none .leaf (.seq none (.sub (.seq none .leaf (.cond (.reg [5] []) .leaf))) .leaf))))) (.seq none (.reg [4, 41] []) .leaf)))), [32, 32], [.tmp 4], [], [], true⟩
noncomputable def F31 : AFunc := ⟨codeOf Try.f31, (.seq none (.reg [4] []) (.seq none (.reg [5] []) (.seq none (.seq none .leaf (.sub (.loop [(0, false), (1, false), (5, true), (6, false)] (.seq none .leaf (.seq none (.sub (.seq none .leaf (.seq none .leaf (.cond (.reg [5, 29] []) .leaf)))) .leaf))))) (.seq none (.reg [4, 39] []) .leaf)))), [32, 32], [.tmp 4], [], [], true⟩
noncomputable def F32 : AFunc := ⟨codeOf Try.f32, (.seq none .leaf (.seq none (.seq none .leaf (.sub (.loop [(0, false), (1, false), (5, false)] .leaf))) .leaf)), [32, 32], [.tmp 4], [], [], true⟩
noncomputable def F38 : AFunc := ⟨codeOf Try.f38, (.seq none .leaf (.seq none (.seq none .leaf (.sub (.loop [(0, false), (3, false)] .leaf))) .leaf)), [32], [.tmp 2], [], [], true⟩
noncomputable def F39 : AFunc := ⟨codeOf Try.f39, (.seq none (.reg [4] []) (.seq none (.reg [5] []) (.seq none (.seq none .leaf (.sub (.loop [(0, false), (1, false), (5, true), (6, false)] (.seq none .leaf (.seq none (.sub (.seq none .leaf (.cond (.reg [5, 26] []) .leaf))) .leaf))))) (.seq none (.reg [4, 33] []) .leaf)))), [23, 32], [.tmp 4], [], [], true⟩
noncomputable def F35 : AFunc := ⟨codeOf Try.f35, (.seq none (.reg [3, 4] []) (.seq none (.sub (.seq none .leaf (.cond (.seq none (.reg [4] []) .leaf) (.seq none .leaf (.cond (.seq none (.reg [4] []) .leaf) (.seq none .leaf (.cond (.seq none (.reg [4] []) .leaf) .leaf))))))) (.seq none (.reg [4] []) .leaf))), [23, 45], [.tmp 4, .tmp 5], [], [], true⟩
noncomputable def F29 : AFunc := ⟨codeOf Try.f29, (.seq none (.reg [4] []) (.seq none (.reg [5] []) (.seq none (.seq none .leaf (.sub (.loop [(0, false), (1, false), (5, true), (6, false)] (.seq none .leaf (.seq none (.sub (.seq none .leaf (.cond (.reg [5, 16] []) .leaf))) .leaf))))) (.seq none (.reg [4] []) .leaf)))), [23, 3], [.tmp 4], [], [], true⟩
noncomputable def F4 : AFunc := ⟨codeOf Try.f4, .leaf, [23, 23], [.tmp 4], [], [], true⟩
noncomputable def F5 : AFunc := ⟨codeOf Try.f5, .leaf, [36, 3, 3, 3], [.tmp 8], [], [], true⟩
noncomputable def F6 : AFunc := ⟨codeOf Try.f6, .leaf, [36, 3, 3], [.tmp 6], [], [], true⟩
noncomputable def F7 : AFunc := ⟨codeOf Try.f7, (.seq none (.reg [3] []) .leaf), [23, 45], [.tmp 4], [], [], true⟩
noncomputable def F8 : AFunc := ⟨codeOf Try.f8, (.seq none .leaf (.seq none .leaf (.seq none .leaf (.seq none (.seq none .leaf (.sub (.loop [(1, false), (5, false), (6, false), (7, false)] (.seq none .leaf (.seq none (.sub (.seq none .leaf (.seq none .leaf (.seq none .leaf (.seq none .leaf (.sub (.loop [(1, false), (5, false), (6, false), (7, false), (8, false), (9, false), (10, false)] .leaf))))))) .leaf))))) .leaf)))), [36, 36], [.tmp 4], [], [], true⟩
noncomputable def F9 : AFunc := ⟨codeOf Try.f9, .leaf, [23, 32], [.tmp 4], [], [], true⟩
noncomputable def fnTab : List (Nat × (Sig × FnDef)) := [
  (9, (⟨[.one (.bool)], []⟩, .code F9)),
  (8, (⟨[.one (.bool)], []⟩, .code F8)),
  (7, (⟨[.one (.bool)], []⟩, .code F7)),
  (6, (⟨[.one (.bool)], []⟩, .code F6)),
  (5, (⟨[.one (.bool)], []⟩, .code F5)),
  (4, (⟨[.one (.bool)], []⟩, .code F4)),
  (29, (⟨[.one (.sl false 45)], []⟩, .code F29)),
  (35, (⟨[.one (.sl false 45), .one (.int .i64)], []⟩, .code F35)),
  (39, (⟨[.one (.sl false 45)], []⟩, .code F39)),
  (38, (⟨[.one (.int .i64)], []⟩, .code F38)),
  (32, (⟨[.one (.bool)], []⟩, .code F32)),
  (31, (⟨[.one (.sl false 67)], []⟩, .code F31)),
  (30, (⟨[.one (.sl false 67)], []⟩, .code F30)),
  (16, (⟨[.one (.bool)], []⟩, .code F16)),
  (18, (⟨[.one (.sl false 67)], []⟩, .code F18)),
  (49, (⟨[.one (.sl false 67)], []⟩, .code F49)),
  (50, (⟨[.one (.int .i64)], []⟩, .code F50)),
  (15, (⟨[.one (.bool)], []⟩, .code F15)),
  (48, (⟨[.one (.bool)], []⟩, .code F48)),
  (27, (⟨[.one (.sl false 45)], []⟩, .code F27)),
  (25, (⟨[.one (.sl false 45)], []⟩, .code F25)),
  (22, (⟨[.one (.bool)], []⟩, .code F22)),
  (20, (⟨[.one (.bool)], []⟩, .code F20)),
  (52, (⟨[.one (.bool)], []⟩, .code F52)),
  (34, (⟨[.one (.sl false 45), .one (.int .i64)], []⟩, .code F34)),
  (33, (⟨[.one (.sl false 45)], []⟩, .code F33)),
  (26, (⟨[.one (.sl false 45)], []⟩, .code F26)),
  (24, (⟨[.one (.sl false 45)], []⟩, .code F24)),
  (56, (⟨[.one (.msl 45 1)], [[.deadp], [.arrp 45]]⟩, .prim (primIns 45))),
  (54, (⟨[.one (.msl 45 0)], [[.arrp 45]]⟩, .code F54)),
  (61, (⟨[.one (.bool)], [[.sl false 67]]⟩, .code F61)),
  (58, (⟨[.one (.bool)], [[.sl false 45]]⟩, .code F58)),
  (17, (⟨[.one (.sl false 67)], []⟩, .code F17)),
  (62, (⟨[.one (.int .i64)], []⟩, .code F62)),
  (81, (⟨[.one (.int .i64), .one (.bool)], []⟩, .code F81)),
  (91, (⟨[.one (.int .i64), .one (.bool)], []⟩, .code F91)),
  (92, (⟨[.one (.int .i64)], []⟩, .code F92)),
  (21, (⟨[.one (.bool)], []⟩, .code F21)),
  (19, (⟨[.one (.bool)], []⟩, .code F19)),
  (51, (⟨[.one (.bool)], []⟩, .code F51)),
  (76, (⟨[.one (.int .i64), .one (.bool)], []⟩, .code F76)),
  (55, (⟨[.one (.bool)], []⟩, .code F55)),
  (57, (⟨[.agg [.int .i64, .int .i64, .sl false 63]], []⟩, .code F57)),
  (79, (⟨[.one (.sl true 63)], []⟩, .code F79)),
  (11, (⟨[.one (.bool)], []⟩, .code F11)),
  (10, (⟨[.one (.bool)], []⟩, .code F10)),
  (43, (⟨[.one (.sl true 45), .one (.int .i64), .one (.int .i64)], []⟩, .code F43)),
  (41, (⟨[.one (.sl true 45), .one (.int .i64), .one (.int .i64)], []⟩, .code F41)),
  (42, (⟨[.one (.sl false 5)], []⟩, .code F42)),
  (40, (⟨[.one (.sl true 5)], []⟩, .code F40)),
  (23, (⟨[.one (.bool)], []⟩, .code F23)),
  (3, (⟨[.one (.bool)], []⟩, .code F3)),
  (12, (⟨[.one (.bool)], []⟩, .code F12)),
  (14, (⟨[.one (.int .i64)], []⟩, .code F14)),
  (13, (⟨[.one (.int .i64)], []⟩, .code F13)),
  (28, (⟨[.one (.sl true 45)], []⟩, .code F28)),
  (60, (⟨[.agg [.int .i64, .int .i64, .int .i64, .int .i64, .int .i64, .int .i64, .int .i64]], []⟩, .code F60)),
  (80, (⟨[.agg [.int .i64, .int .i64, .int .i64]], []⟩, .code F80)),
  (37, (⟨[.one (.int .i64)], []⟩, .code F37)),
  (59, (⟨[.one (.int .i64)], []⟩, .code F59)),
  (36, (⟨[.one (.int .i64)], []⟩, .code F36)),
  (70, (⟨[.agg [.int .i64, .int .i64, .sl true 63], .one (.int .i64), .one (.int .i64)], []⟩, .code F70)),
  (68, (⟨[.one (.sl false 5)], []⟩, .code F68)),
  (67, (⟨[.one (.sl false 5)], []⟩, .code F67)),
  (84, (⟨[.one (.sl true 3), .one (.int .i64), .one (.int .i64)], []⟩, .code F84)),
  (93, (⟨[.one (.int .i64), .one (.int .i64), .one (.int .i64)], []⟩, .code F93)),
  (66, (⟨[.agg [.int .i64, .int .i64, .sl true 63], .one (.int .i64), .one (.int .i64)], []⟩, .code F66)),
  (64, (⟨[.one (.sl true 5)], []⟩, .code F64)),
  (82, (⟨[.one (.int .i64)], [[.sl false 5, .int .i64, .int .i64]]⟩, .code F82)),
  (69, (⟨[.one (.int .u64), .one (.int .i64), .one (.int .i64)], []⟩, .code F69)),
  (65, (⟨[.one (.int .u64), .one (.int .i64), .one (.int .i64)], []⟩, .code F65)),
  (83, (⟨[.one (.sl true 5)], []⟩, .code F83)),
  (63, (⟨[.one (.sl true 5)], []⟩, .code F63)),
  (53, (⟨[.one (.bool)], []⟩, .code F53)),
  (47, (⟨[.one (.int .i64)], []⟩, .code F47)),
  (45, (⟨[.one (.int .i64)], []⟩, .code F45)),
  (72, (⟨[.one (.int .i64)], []⟩, .code F72)),
  (73, (⟨[.one (.int .i64)], []⟩, .code F73)),
  (87, (⟨[.one (.bool)], []⟩, .code F87)),
  (46, (⟨[.one (.int .i64)], []⟩, .code F46)),
  (44, (⟨[.one (.int .i64)], []⟩, .code F44)),
  (75, (⟨[.one (.int .i64)], []⟩, .code F75)),
  (71, (⟨[.one (.int .i64)], []⟩, .code F71)),
  (89, (⟨[.one (.int .i64)], []⟩, .code F89)),
  (74, (⟨[.one (.bool)], []⟩, .code F74)),
  (88, (⟨[.one (.bool)], []⟩, .code F88)),
  (86, (⟨[.one (.int .i64)], []⟩, .code F86)),
  (85, (⟨[.one (.bool)], []⟩, .code F85))]
noncomputable def E : Env := ⟨lookT tyTab, lookT fnTab⟩
def s85 : Go.Abs.Spec := fun args blk => match args, blk with
  | [.one (.int .i64 n), .one (.int .i64 lo), .one (.int .i64 hi), .one (.bool u)], [] => (true, ([.one (.bool (within n lo hi u))], []))
  | _, _ => (false, ([], []))
def s86 : Go.Abs.Spec := fun args blk => match args, blk with
  | [.agg [.int .i64 k, .int .i64 c, .int .i64 f]], [] => (true, ([.one (.int .i64 (vRule k c f))], []))
  | _, _ => (false, ([], []))
def s88 : Go.Abs.Spec := fun args blk => match args, blk with
  | [.one (.int .i64 n)], [] => (true, ([.one (.bool (isServer n))], []))
  | _, _ => (false, ([], []))
def s74 : Go.Abs.Spec := fun args blk => match args, blk with
  | [.one (.int .i64 n)], [] => (true, ([.one (.bool (isAdmin n))], []))
  | _, _ => (false, ([], []))
def s89 : Go.Abs.Spec := fun args blk => match args, blk with
  | [.agg [.int .i64 k, .int .i64 c, .int .i64 f]], [] => (true, ([.one (.int .i64 (vRule k c f))], []))
  | _, _ => (false, ([], []))
def s71 : Go.Abs.Spec := fun args blk => match args, blk with
  | [.agg [.int .i64 k, .int .i64 s, .int .i64 w, .int .i64 v, .int .i64 rk, .int .i64 rc, .int .i64 rf]], [] => (true, ([.one (.int .i64 (vChange k s w v rk rc rf))], []))
  | _, _ => (false, ([], []))
def s75 : Go.Abs.Spec := fun args blk => match args, blk with
  | [.agg [.int .i64 k, .int .i64 s, .int .i64 w, .int .i64 v, .int .i64 rk, .int .i64 rc, .int .i64 rf]], [] => (true, ([.one (.int .i64 (vChange k s w v rk rc rf))], []))
  | _, _ => (false, ([], []))
def s44 : Go.Abs.Spec := fun args blk => match args, blk with
  | [.agg [.int .i64 ap, .int .i64 np, .sl false 63 cp]], [] => ((decide (cp.length < 9223372036854775808)), ([.one (.int .i64 (vProp ap np cp))], []))
  | _, _ => (false, ([], []))
def s46 : Go.Abs.Spec := fun args blk => match args, blk with
  | [.agg [.int .i64 ap, .int .i64 np, .sl false 63 cp]], [] => ((decide (cp.length < 9223372036854775808)), ([.one (.int .i64 (vProp ap np cp))], []))
  | _, _ => (false, ([], []))
def s87 : Go.Abs.Spec := fun args blk => match args, blk with
  | [.one (.int .i64 n)], [] => (true, ([.one (.bool false)], []))
  | _, _ => (false, ([], []))
def s73 : Go.Abs.Spec := fun args blk => match args, blk with
  | [.one (.int .i64 x), .one (.int .i64 y)], [] => (true, ([.one (.int .i64 (cmpI x y))], []))
  | _, _ => (false, ([], []))
def s72 : Go.Abs.Spec := fun args blk => match args, blk with
  | [.one (.sl false 3 l)], [] => ((decide (l.length < 9223372036854775808)), ([.one (.int .i64 (orI1 l))], []))
  | _, _ => (false, ([], []))
def s45 : Go.Abs.Spec := fun args blk => match args, blk with
  | [.agg [.int .i64 ap, .int .i64 np, .sl false 63 cp], .agg [.int .i64 aq, .int .i64 nq, .sl false 63 cq]], [] => (true, ([.one (.int .i64 (cmpP ap np aq nq))], []))
  | _, _ => (false, ([], []))
def s47 : Go.Abs.Spec := fun args blk => match args, blk with
  | [.agg [.int .i64 ap, .int .i64 np, .sl false 63 cp], .agg [.int .i64 aq, .int .i64 nq, .sl false 63 cq]], [] => (true, ([.one (.int .i64 (cmpP ap np aq nq))], []))
  | _, _ => (false, ([], []))
def s53 : Go.Abs.Spec := fun args blk => match args, blk with
  | [.agg [.int .i64 ap, .int .i64 np, .sl false 63 cp], .agg [.int .i64 aq, .int .i64 nq, .sl false 63 cq]], [] => ((decide (cp.length < 9223372036854775808)), ([.one (.bool (eqP ap np cp aq nq cq))], []))
  | _, _ => (false, ([], []))
def s63 : Go.Abs.Spec := fun args blk => match args, blk with
  | [.one (.sl false 5 x), .one (.int .u64 v)], [] => ((okEnc x v), ([.one (.sl true 5 (x ++ uenc v))], []))
  | [.one (.nils), .one (.int .u64 v)], [] => ((okU v), ([.one (.sl true 5 (uenc v))], []))
  | _, _ => (false, ([], []))
def s83 : Go.Abs.Spec := fun args blk => match args, blk with
  | [.one (.sl false 5 x), .one (.int .u64 v)], [] => ((okEnc x v), ([.one (.sl true 5 (x ++ uenc v))], []))
  | _, _ => (false, ([], []))
def s65 : Go.Abs.Spec := fun args blk => match args, blk with
  | [.one (.sl false 5 x)], [] => ((okRd x), ([.one (.int .u64 (udec x).1), .one (.int .i64 (udec x).2.1), .one (.int .i64 (udec x).2.2)], []))
  | _, _ => (false, ([], []))
def s69 : Go.Abs.Spec := fun args blk => match args, blk with
  | [.one (.sl false 5 x)], [] => ((okRd x), ([.one (.int .u64 (udec x).1), .one (.int .i64 (udec x).2.1), .one (.int .i64 (udec x).2.2)], []))
  | _, _ => (false, ([], []))
def s82 : Go.Abs.Spec := fun args blk => match args, blk with
  | [.one (.ptr 0 0)], [.var [.sl false 5 b, .int .i64 o, .int .i64 e]] => ((okAt b o), ([.one (.int .i64 (rnum b o e).1)], [.var [.sl false 5 b, .int .i64 (rnum b o e).2.1, .int .i64 (rnum b o e).2.2]]))
  | _, _ => (false, ([], []))
def s64 : Go.Abs.Spec := fun args blk => match args, blk with
  | [.one (.sl false 5 x), .agg [.int .i64 ap, .int .i64 np, .sl false 63 cp]], [] => ((okApp x cp), ([.one (.sl true 5 (x ++ encP ap np cp))], []))
  | [.one (.nils), .agg [.int .i64 ap, .int .i64 np, .sl false 63 cp]], [] => ((okApp [] cp), ([.one (.sl true 5 (encP ap np cp))], []))
  | _, _ => (false, ([], []))
def s66 : Go.Abs.Spec := fun args blk => match args, blk with
  | [.one (.sl false 5 x)], [] => ((okRd x), ([.agg [.int .i64 (decP x).1, .int .i64 (decP x).2.1, .sl true 63 (decP x).2.2.1], .one (.int .i64 (decP x).2.2.2.1), .one (.int .i64 (decP x).2.2.2.2)], []))
  | _, _ => (false, ([], []))
def s93 : Go.Abs.Spec := fun args blk => match args, blk with
  | [.one (.sl false 5 x)], [] => ((okRd x), ([.one (.int .i64 (rnum2 x).1), .one (.int .i64 (rnum2 x).2.1), .one (.int .i64 (rnum2 x).2.2)], []))
  | _, _ => (false, ([], []))
def s84 : Go.Abs.Spec := fun args blk => match args, blk with
  | [.one (.sl false 5 x), .one (.int .i64 c)], [] => ((okRd x && decide (c ≤ 1000)), ([.one (.sl true 3 (rread x c).1), .one (.int .i64 (rread x c).2.1), .one (.int .i64 (rread x c).2.2)], []))
  | _, _ => (false, ([], []))
def s67 : Go.Abs.Spec := fun args blk => match args, blk with
  | [.one (.sl false 5 x), .one (.sl false 3 l)], [] => ((okNums x l), ([.one (.sl false 5 (x ++ encL l))], []))
  | _, _ => (false, ([], []))
def s68 : Go.Abs.Spec := fun args blk => match args, blk with
  | [.one (.sl false 5 x), .agg [.int .i64 ap, .int .i64 np, .sl false 63 cp]], [] => ((okApp x cp), ([.one (.sl false 5 (x ++ encP ap np cp))], []))
  | [.one (.nils), .agg [.int .i64 ap, .int .i64 np, .sl false 63 cp]], [] => ((okApp [] cp), ([.one (.sl false 5 (encP ap np cp))], []))
  | _, _ => (false, ([], []))
def s70 : Go.Abs.Spec := fun args blk => match args, blk with
  | [.one (.sl false 5 x)], [] => ((okRd x), ([.agg [.int .i64 (decP x).1, .int .i64 (decP x).2.1, .sl true 63 (decP x).2.2.1], .one (.int .i64 (decP x).2.2.2.1), .one (.int .i64 (decP x).2.2.2.2)], []))
  | _, _ => (false, ([], []))
def s36 : Go.Abs.Spec := fun args blk => match args, blk with
  | [.one (.int .i64 n), .one (.int .i64 k)], [] => ((decide (k ≤ 4611686018427387904)), ([.one (.int .i64 (gIndex n k))], []))
  | _, _ => (false, ([], []))
def s59 : Go.Abs.Spec := fun args blk => match args, blk with
  | [.one (.int .i64 n), .one (.int .i64 b), .one (.int .i64 j)], [] => ((decide (2 ≤ b) && decide (j ≤ 9223372036854775807)), ([.one (.int .i64 (gDigit n b j))], []))
  | _, _ => (false, ([], []))
def s37 : Go.Abs.Spec := fun args blk => match args, blk with
  | [.one (.sl false 3 l), .one (.int .i64 j)], [] => ((decide (l.length < 4611686018427387904)), ([.one (.int .i64 (gAt l j))], []))
  | _, _ => (false, ([], []))
def s80 : Go.Abs.Spec := fun args blk => match args, blk with
  | [.one (.int .i64 n)], [] => (true, ([.agg [.int .i64 (gRule n).1, .int .i64 (gRule n).2.1, .int .i64 (gRule n).2.2]], []))
  | _, _ => (false, ([], []))
def s60 : Go.Abs.Spec := fun args blk => match args, blk with
  | [.one (.int .i64 n)], [] => (true, ([.agg [.int .i64 (gCh n 0), .int .i64 (gCh n 1), .int .i64 (gCh n 2), .int .i64 (gCh n 3), .int .i64 (gCh n 4), .int .i64 (gCh n 5), .int .i64 (gCh n 6)]], []))
  | _, _ => (false, ([], []))
def s28 : Go.Abs.Spec := fun args blk => match args, blk with
  | [.one (.sl false 3 l)], [] => ((decide (l.length < 4611686018427387904)), ([.one (.sl true 45 (gPool l))], []))
  | _, _ => (false, ([], []))
def s13 : Go.Abs.Spec := fun args blk => match args, blk with
  | [.one (.sl false 45 c)], [] => ((okRows c), ([.one (.int .i64 (vCfg c))], []))
  | _, _ => (false, ([], []))
def s14 : Go.Abs.Spec := fun args blk => match args, blk with
  | [.one (.sl false 45 c)], [] => ((okRows c), ([.one (.int .i64 (vCfg c))], []))
  | _, _ => (false, ([], []))
def s12 : Go.Abs.Spec := fun args blk => match args, blk with
  | [], [] => (true, ([.one (.bool true)], []))
  | _, _ => (false, ([], []))
def s3 : Go.Abs.Spec := fun args blk => match args, blk with
  | [.one (.sl false 45 c)], [] => ((shortRows c), ([.one (.bool true)], []))
  | _, _ => (false, ([], []))
def s23 : Go.Abs.Spec := fun args blk => match args, blk with
  | [.one (.sl false 45 c), .one (.sl false 45 d)], [] => ((okRows c), ([.one (.bool (eqCfg c d))], []))
  | _, _ => (false, ([], []))
def s40 : Go.Abs.Spec := fun args blk => match args, blk with
  | [.one (.sl false 5 x), .one (.sl false 45 c)], [] => ((okCApp x c), ([.one (.sl true 5 (x ++ encC c))], []))
  | [.one (.nils), .one (.sl false 45 c)], [] => ((okCApp [] c), ([.one (.sl true 5 (encC c))], []))
  | _, _ => (false, ([], []))
def s42 : Go.Abs.Spec := fun args blk => match args, blk with
  | [.one (.sl false 5 x), .one (.sl false 45 c)], [] => ((okCApp x c), ([.one (.sl false 5 (x ++ encC c))], []))
  | [.one (.nils), .one (.sl false 45 c)], [] => ((okCApp [] c), ([.one (.sl false 5 (encC c))], []))
  | _, _ => (false, ([], []))
def s41 : Go.Abs.Spec := fun args blk => match args, blk with
  | [.one (.sl false 5 x)], [] => ((okRd x), ([.one (.sl true 45 (decC x).1), .one (.int .i64 (decC x).2.1), .one (.int .i64 (decC x).2.2)], []))
  | _, _ => (false, ([], []))
def s43 : Go.Abs.Spec := fun args blk => match args, blk with
  | [.one (.sl false 5 x)], [] => ((okRd x), ([.one (.sl true 45 (decC x).1), .one (.int .i64 (decC x).2.1), .one (.int .i64 (decC x).2.2)], []))
  | _, _ => (false, ([], []))
def s10 : Go.Abs.Spec := fun args blk => match args, blk with
  | [.one (.sl false 45 c), .one (.sl false 5 x)], [] => ((okB x && shortRows c), ([.one (.bool true)], []))
  | _, _ => (false, ([], []))
def s11 : Go.Abs.Spec := fun args blk => match args, blk with
  | [.one (.sl false 5 x)], [] => ((okB x), ([.one (.bool true)], []))
  | _, _ => (false, ([], []))
def s79 : Go.Abs.Spec := fun args blk => match args, blk with
  | [.one (.sl false 63 c)], [] => ((okCh c), ([.one (.sl true 63 c)], []))
  | _, _ => (false, ([], []))
def s57 : Go.Abs.Spec := fun args blk => match args, blk with
  | [.agg [.int .i64 ap, .int .i64 np, .sl false 63 cp]], [] => ((okCh cp), ([.agg [.int .i64 ap, .int .i64 np, .sl false 63 cp]], []))
  | _, _ => (false, ([], []))
def s55 : Go.Abs.Spec := fun args blk => match args, blk with
  | [.agg [.int .i64 ap, .int .i64 np, .sl false 63 cp]], [] => (true, ([.one (.bool true)], []))
  | _, _ => (false, ([], []))
def s76 : Go.Abs.Spec := fun args blk => match args, blk with
  | [.one (.sl false 45 c), .agg [.int .i64 ap, .int .i64 np, .sl false 63 cp], .one (.fn 45 [])], [] => ((okSrt c), ([.one (.int .i64 (lowK c (prow ap np cp) : Int)), .one (.bool (hasK c (prow ap np cp)))], []))
  | _, _ => (false, ([], []))
def s51 : Go.Abs.Spec := fun args blk => match args, blk with
  | [.one (.sl false 45 c), .agg [.int .i64 ap, .int .i64 np, .sl false 63 cp]], [] => ((okSrt c), ([.one (.bool (hasK c (prow ap np cp)))], []))
  | _, _ => (false, ([], []))
def s19 : Go.Abs.Spec := fun args blk => match args, blk with
  | [.one (.sl false 45 c), .one (.sl false 45 d)], [] => ((okSrt c && okLn d), ([.one (.bool (contK c d))], []))
  | _, _ => (false, ([], []))
def s21 : Go.Abs.Spec := fun args blk => match args, blk with
  | [.one (.sl false 45 c), .one (.sl false 45 d)], [] => ((okSrt c && okSrt d), ([.one (.bool (contK c d && contK d c))], []))
  | _, _ => (false, ([], []))
def s92 : Go.Abs.Spec := fun args blk => match args, blk with
  | [.agg [.int .i64 u, .int .i64 k], .one (.int .i64 a)], [] => (true, ([.one (.int .i64 (cmpI u a))], []))
  | _, _ => (false, ([], []))
def s91 : Go.Abs.Spec := fun args blk => match args, blk with
  | [.one (.sl false 67 v), .one (.int .i64 a), .one (.fn 92 [])], [] => ((okVec v), ([.one (.int .i64 (lowV v a : Int)), .one (.bool (hasV v a))], []))
  | _, _ => (false, ([], []))
def s81 : Go.Abs.Spec := fun args blk => match args, blk with
  | [.one (.sl false 67 v), .one (.int .i64 a)], [] => ((okVec v), ([.one (.int .i64 (lowV v a : Int)), .one (.bool (hasV v a))], []))
  | _, _ => (false, ([], []))
def s62 : Go.Abs.Spec := fun args blk => match args, blk with
  | [.one (.sl false 67 v), .one (.int .i64 a)], [] => ((okVec v), ([.one (.int .i64 (cntV v a))], []))
  | _, _ => (false, ([], []))
def s17 : Go.Abs.Spec := fun args blk => match args, blk with
  | [.one (.sl false 45 c)], [] => ((okLn c), ([.one (.sl false 67 (vecK c))], []))
  | _, _ => (false, ([], []))
def s58 : Go.Abs.Spec := fun args blk => match args, blk with
  | [.agg [.int .i64 ap, .int .i64 np, .sl false 63 cp], .one (.ptr 0 0)], [.var [.sl false 45 d]] => ((okSrt d), ([.one (.bool (hasK d (prow ap np cp)))], [.var [.sl false 45 d]]))
  | _, _ => (false, ([], []))
def s61 : Go.Abs.Spec := fun args blk => match args, blk with
  | [.agg [.int .i64 ap, .int .i64 np, .sl false 63 cp], .one (.ptr 0 0)], [.var [.sl false 67 v]] => ((okVec v), ([.one (.bool (decide (np ≤ cntV v ap)))], [.var [.sl false 67 v]]))
  | _, _ => (false, ([], []))
def s54 : Go.Abs.Spec := fun args blk => match args, blk with
  | [.one (.sl false 45 c), .one (.fn 55 [])], [] => ((okCl c), ([.one (.msl 45 0 c.length)], [.arr 45 c]))
  | [.one (.sl false 45 c), .one (.fn 58 [.ptr 0 0])], [.var [.sl false 45 d]] => ((okCl c && okSrt d), ([.one (.msl 45 1 (meetK c d).length)], [.var [.sl false 45 d], .arr 45 (meetK c d)]))
  | [.one (.sl false 45 c), .one (.fn 61 [.ptr 0 0])], [.var [.sl false 67 v]] => ((okCl c && okVec v), ([.one (.msl 45 1 (restr c v).length)], [.var [.sl false 67 v], .arr 45 (restr c v)]))
  | _, _ => (false, ([], []))
def s56 : Go.Abs.Spec := fun args blk => match args, blk with
  | [.one (.msl 45 0 n), .one (.int .i64 k), .one (.sl false 45 y)], [.arr 45 x] => ((okIns n k x y), ([.one (.msl 45 1 (x.length + y.length))], [.dead, .arr 45 (insL x y (Int.toNat k))]))
  | _, _ => (false, ([], []))
def s24 : Go.Abs.Spec := fun args blk => match args, blk with
  | [.one (.sl false 45 c), .one (.sl false 45 d)], [] => ((okCl c && okCl d), ([.one (.sl false 45 (uniK c d))], []))
  | _, _ => (false, ([], []))
def s26 : Go.Abs.Spec := fun args blk => match args, blk with
  | [.one (.sl false 45 c), .one (.sl false 45 d)], [] => ((okCl c && okSrt d), ([.one (.sl false 45 (meetK c d))], []))
  | _, _ => (false, ([], []))
def s33 : Go.Abs.Spec := fun args blk => match args, blk with
  | [.one (.sl false 45 c), .one (.sl false 67 v)], [] => ((okCl c && okVec v), ([.one (.sl false 45 (restr c v))], []))
  | _, _ => (false, ([], []))
def s34 : Go.Abs.Spec := fun args blk => match args, blk with
  | [.one (.sl false 45 c), .agg [.int .i64 ap, .int .i64 np, .sl false 63 cp]], [] => ((okAdd c cp), ([.one (.sl false 45 (addC c ap np cp).1), .one (.int .i64 (addC c ap np cp).2)], []))
  | _, _ => (false, ([], []))
def s52 : Go.Abs.Spec := fun args blk => match args, blk with
  | [.one (.sl false 45 c), .agg [.int .i64 ap, .int .i64 np, .sl false 63 cp]], [] => ((okLn c), ([.one (.bool (hasK c (prow ap np cp)))], []))
  | _, _ => (false, ([], []))
def s20 : Go.Abs.Spec := fun args blk => match args, blk with
  | [.one (.sl false 45 c), .one (.sl false 45 d)], [] => ((okLn c && okLn d), ([.one (.bool (contK c d))], []))
  | _, _ => (false, ([], []))
def s22 : Go.Abs.Spec := fun args blk => match args, blk with
  | [.one (.sl false 45 c), .one (.sl false 45 d)], [] => ((okLn c && okLn d), ([.one (.bool (contK c d && contK d c))], []))
  | _, _ => (false, ([], []))
def s25 : Go.Abs.Spec := fun args blk => match args, blk with
  | [.one (.sl false 45 c), .one (.sl false 45 d)], [] => ((okCf c && okCf d), ([.one (.sl false 45 (mrgK c d))], []))
  | _, _ => (false, ([], []))
def s27 : Go.Abs.Spec := fun args blk => match args, blk with
  | [.one (.sl false 45 c), .one (.sl false 45 d)], [] => ((okCf c && okLn d), ([.one (.sl false 45 (meetK c d))], []))
  | _, _ => (false, ([], []))
def s48 : Go.Abs.Spec := fun args blk => match args, blk with
  | [.one (.sl false 45 c), .one (.sl false 45 d)], [] => ((okRows c && okLn d), ([.one (.bool (agrC c d))], []))
  | _, _ => (false, ([], []))
def s15 : Go.Abs.Spec := fun args blk => match args, blk with
  | [.one (.sl false 23 l)], [] => ((okCs l), ([.one (.bool (validCs l))], []))
  | _, _ => (false, ([], []))
def s50 : Go.Abs.Spec := fun args blk => match args, blk with
  | [.one (.sl false 67 v), .one (.int .i64 a)], [] => ((okLn v), ([.one (.int .i64 (cntV v a))], []))
  | _, _ => (false, ([], []))
def s49 : Go.Abs.Spec := fun args blk => match args, blk with
  | [.one (.sl false 67 v), .one (.int .i64 a), .one (.int .i64 k)], [] => ((okEv v), ([.one (.sl false 67 (withV v a k))], []))
  | _, _ => (false, ([], []))
def s18 : Go.Abs.Spec := fun args blk => match args, blk with
  | [.one (.sl false 45 c)], [] => ((okLn c), ([.one (.sl false 67 (vecR c))], []))
  | _, _ => (false, ([], []))
def s16 : Go.Abs.Spec := fun args blk => match args, blk with
  | [.one (.sl false 67 v), .one (.sl false 67 w)], [] => ((okLn v), ([.one (.bool (eqVec v w))], []))
  | _, _ => (false, ([], []))
def s30 : Go.Abs.Spec := fun args blk => match args, blk with
  | [.one (.sl false 67 v), .one (.sl false 67 w)], [] => ((okJn v w), ([.one (.sl false 67 (joinV v w))], []))
  | _, _ => (false, ([], []))
def s31 : Go.Abs.Spec := fun args blk => match args, blk with
  | [.one (.sl false 67 v), .one (.sl false 67 w)], [] => ((okLn v && okLn w), ([.one (.sl false 67 (meetV v w))], []))
  | _, _ => (false, ([], []))
def s32 : Go.Abs.Spec := fun args blk => match args, blk with
  | [.one (.sl false 67 v), .one (.sl false 67 w)], [] => ((okLn v && okLn w), ([.one (.bool (leV v w))], []))
  | _, _ => (false, ([], []))
def s38 : Go.Abs.Spec := fun args blk => match args, blk with
  | [.one (.sl false 67 v)], [] => ((okLn v), ([.one (.int .i64 (vVec v))], []))
  | _, _ => (false, ([], []))
def s39 : Go.Abs.Spec := fun args blk => match args, blk with
  | [.one (.sl false 45 c), .one (.sl false 67 v)], [] => ((okCf c && okLn v), ([.one (.sl false 45 (restr c v))], []))
  | _, _ => (false, ([], []))
def s35 : Go.Abs.Spec := fun args blk => match args, blk with
  | [.one (.sl false 45 c), .agg [.int .i64 ap, .int .i64 np, .sl false 63 cp]], [] => ((okAdd c cp), ([.one (.sl false 45 (addR c ap np cp).1), .one (.int .i64 (addR c ap np cp).2)], []))
  | _, _ => (false, ([], []))
def s29 : Go.Abs.Spec := fun args blk => match args, blk with
  | [.one (.sl false 45 c), .one (.int .i64 n)], [] => ((okCf c), ([.one (.sl false 45 (gPart c n))], []))
  | _, _ => (false, ([], []))
def s4 : Go.Abs.Spec := fun args blk => match args, blk with
  | [.one (.sl false 45 c), .one (.sl false 45 d)], [] => ((okArg c && okArg d), ([.one (.bool true)], []))
  | _, _ => (false, ([], []))
def s5 : Go.Abs.Spec := fun args blk => match args, blk with
  | [.one (.sl false 3 l), .one (.int .i64 x), .one (.int .i64 y), .one (.int .i64 z)], [] => ((decide (l.length < 4611686018427387904)), ([.one (.bool true)], []))
  | _, _ => (false, ([], []))
def s6 : Go.Abs.Spec := fun args blk => match args, blk with
  | [.one (.sl false 3 l), .one (.int .i64 x), .one (.int .i64 y)], [] => ((decide (l.length < 4611686018427387904)), ([.one (.bool true)], []))
  | _, _ => (false, ([], []))
def s7 : Go.Abs.Spec := fun args blk => match args, blk with
  | [.one (.sl false 45 c), .agg [.int .i64 ap, .int .i64 np, .sl false 63 cp]], [] => ((okArg c), ([.one (.bool true)], []))
  | _, _ => (false, ([], []))
def s8 : Go.Abs.Spec := fun args blk => match args, blk with
  | [.one (.sl false 3 l), .one (.sl false 3 o)], [] => ((decide (l.length < 4611686018427387904) && decide (o.length < 4611686018427387904)), ([.one (.bool true)], []))
  | _, _ => (false, ([], []))
def s9 : Go.Abs.Spec := fun args blk => match args, blk with
  | [.one (.sl false 45 c), .one (.sl false 67 v)], [] => ((okArg c && okEn v), ([.one (.bool true)], []))
  | _, _ => (false, ([], []))
def L : List (Nat × Go.Abs.Spec) := []
def L85 : List (Nat × Go.Abs.Spec) := (85, s85) :: L
def L86 : List (Nat × Go.Abs.Spec) := (86, s86) :: L85
def L88 : List (Nat × Go.Abs.Spec) := (88, s88) :: L86
def L74 : List (Nat × Go.Abs.Spec) := (74, s74) :: L88
def L89 : List (Nat × Go.Abs.Spec) := (89, s89) :: L74
def L71 : List (Nat × Go.Abs.Spec) := (71, s71) :: L89
def L75 : List (Nat × Go.Abs.Spec) := (75, s75) :: L71
def L44 : List (Nat × Go.Abs.Spec) := (44, s44) :: L75
def L46 : List (Nat × Go.Abs.Spec) := (46, s46) :: L44
def L87 : List (Nat × Go.Abs.Spec) := (87, s87) :: L46
def L73 : List (Nat × Go.Abs.Spec) := (73, s73) :: L87
def L72 : List (Nat × Go.Abs.Spec) := (72, s72) :: L73
def L45 : List (Nat × Go.Abs.Spec) := (45, s45) :: L72
def L47 : List (Nat × Go.Abs.Spec) := (47, s47) :: L45
def L53 : List (Nat × Go.Abs.Spec) := (53, s53) :: L47
def L63 : List (Nat × Go.Abs.Spec) := (63, s63) :: L53
def L83 : List (Nat × Go.Abs.Spec) := (83, s83) :: L63
def L65 : List (Nat × Go.Abs.Spec) := (65, s65) :: L83
def L69 : List (Nat × Go.Abs.Spec) := (69, s69) :: L65
def L82 : List (Nat × Go.Abs.Spec) := (82, s82) :: L69
def L64 : List (Nat × Go.Abs.Spec) := (64, s64) :: L82
def L66 : List (Nat × Go.Abs.Spec) := (66, s66) :: L64
def L93 : List (Nat × Go.Abs.Spec) := (93, s93) :: L66
def L84 : List (Nat × Go.Abs.Spec) := (84, s84) :: L93
def L67 : List (Nat × Go.Abs.Spec) := (67, s67) :: L84
def L68 : List (Nat × Go.Abs.Spec) := (68, s68) :: L67
def L70 : List (Nat × Go.Abs.Spec) := (70, s70) :: L68
def L36 : List (Nat × Go.Abs.Spec) := (36, s36) :: L70
def L59 : List (Nat × Go.Abs.Spec) := (59, s59) :: L36
def L37 : List (Nat × Go.Abs.Spec) := (37, s37) :: L59
def L80 : List (Nat × Go.Abs.Spec) := (80, s80) :: L37
def L60 : List (Nat × Go.Abs.Spec) := (60, s60) :: L80
def L28 : List (Nat × Go.Abs.Spec) := (28, s28) :: L60
def L13 : List (Nat × Go.Abs.Spec) := (13, s13) :: L28
def L14 : List (Nat × Go.Abs.Spec) := (14, s14) :: L13
def L12 : List (Nat × Go.Abs.Spec) := (12, s12) :: L14
def L3 : List (Nat × Go.Abs.Spec) := (3, s3) :: L12
def L23 : List (Nat × Go.Abs.Spec) := (23, s23) :: L3
def L40 : List (Nat × Go.Abs.Spec) := (40, s40) :: L23
def L42 : List (Nat × Go.Abs.Spec) := (42, s42) :: L40
def L41 : List (Nat × Go.Abs.Spec) := (41, s41) :: L42
def L43 : List (Nat × Go.Abs.Spec) := (43, s43) :: L41
def L10 : List (Nat × Go.Abs.Spec) := (10, s10) :: L43
def L11 : List (Nat × Go.Abs.Spec) := (11, s11) :: L10
def L79 : List (Nat × Go.Abs.Spec) := (79, s79) :: L11
def L57 : List (Nat × Go.Abs.Spec) := (57, s57) :: L79
def L55 : List (Nat × Go.Abs.Spec) := (55, s55) :: L57
def L76 : List (Nat × Go.Abs.Spec) := (76, s76) :: L55
def L51 : List (Nat × Go.Abs.Spec) := (51, s51) :: L76
def L19 : List (Nat × Go.Abs.Spec) := (19, s19) :: L51
def L21 : List (Nat × Go.Abs.Spec) := (21, s21) :: L19
def L92 : List (Nat × Go.Abs.Spec) := (92, s92) :: L21
def L91 : List (Nat × Go.Abs.Spec) := (91, s91) :: L92
def L81 : List (Nat × Go.Abs.Spec) := (81, s81) :: L91
def L62 : List (Nat × Go.Abs.Spec) := (62, s62) :: L81
def L17 : List (Nat × Go.Abs.Spec) := (17, s17) :: L62
def L58 : List (Nat × Go.Abs.Spec) := (58, s58) :: L17
def L61 : List (Nat × Go.Abs.Spec) := (61, s61) :: L58
def L54 : List (Nat × Go.Abs.Spec) := (54, s54) :: L61
def L56 : List (Nat × Go.Abs.Spec) := (56, s56) :: L54
def L24 : List (Nat × Go.Abs.Spec) := (24, s24) :: L56
def L26 : List (Nat × Go.Abs.Spec) := (26, s26) :: L24
def L33 : List (Nat × Go.Abs.Spec) := (33, s33) :: L26
def L34 : List (Nat × Go.Abs.Spec) := (34, s34) :: L33
def L52 : List (Nat × Go.Abs.Spec) := (52, s52) :: L34
def L20 : List (Nat × Go.Abs.Spec) := (20, s20) :: L52
def L22 : List (Nat × Go.Abs.Spec) := (22, s22) :: L20
def L25 : List (Nat × Go.Abs.Spec) := (25, s25) :: L22
def L27 : List (Nat × Go.Abs.Spec) := (27, s27) :: L25
def L48 : List (Nat × Go.Abs.Spec) := (48, s48) :: L27
def L15 : List (Nat × Go.Abs.Spec) := (15, s15) :: L48
def L50 : List (Nat × Go.Abs.Spec) := (50, s50) :: L15
def L49 : List (Nat × Go.Abs.Spec) := (49, s49) :: L50
def L18 : List (Nat × Go.Abs.Spec) := (18, s18) :: L49
def L16 : List (Nat × Go.Abs.Spec) := (16, s16) :: L18
def L30 : List (Nat × Go.Abs.Spec) := (30, s30) :: L16
def L31 : List (Nat × Go.Abs.Spec) := (31, s31) :: L30
def L32 : List (Nat × Go.Abs.Spec) := (32, s32) :: L31
def L38 : List (Nat × Go.Abs.Spec) := (38, s38) :: L32
def L39 : List (Nat × Go.Abs.Spec) := (39, s39) :: L38
def L35 : List (Nat × Go.Abs.Spec) := (35, s35) :: L39
def L29 : List (Nat × Go.Abs.Spec) := (29, s29) :: L35
def L4 : List (Nat × Go.Abs.Spec) := (4, s4) :: L29
def L5 : List (Nat × Go.Abs.Spec) := (5, s5) :: L4
def L6 : List (Nat × Go.Abs.Spec) := (6, s6) :: L5
def L7 : List (Nat × Go.Abs.Spec) := (7, s7) :: L6
def L8 : List (Nat × Go.Abs.Spec) := (8, s8) :: L7
def L9 : List (Nat × Go.Abs.Spec) := (9, s9) :: L8
theorem tabs : tabB Try.prog E tyTab = true := by kernel_rfl
theorem good : Go.Abs.Good Try.prog E := good_of (l := tyTab) rfl tabs

end Go.Proofs.Ytohikghidhdhjaa
