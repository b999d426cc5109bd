/-
  The tables of this seat: types, functions with their notes, contracts. Printed by a program of our own.
-/
import Derived.Test.YtejimgikldiajaaA28
import Derived.Test.YtejimgikldiajaaDefs
import Derived.Test.YtejimgikldiajaaProg
namespace Go.Proofs.Ytejimgikldiajaa
open Go.Abs

def tyTab : List (Nat × Ty) := [
  (2, ⟨.int .i64, 1, 8, [.int .i64], false⟩),
  (3, ⟨.int .i64, 1, 8, [.int .i64], false⟩),
  (4, ⟨.bool, 1, 1, [.bool], false⟩),
  (5, ⟨.int .u8, 1, 1, [.int .u8], false⟩),
  (6, ⟨.int .u8, 1, 1, [.int .u8], false⟩),
  (7, ⟨.struct [(0, 2), (1, 3), (2, 4), (3, 6)], 4, 24, [.int .i64, .int .i64, .bool, .int .u8], false⟩),
  (9, ⟨.str, 1, 16, [.str], false⟩),
  (23, ⟨.struct [(0, 3), (1, 3)], 2, 16, [.int .i64, .int .i64], true⟩),
  (25, ⟨.slice 74, 1, 24, [.slice 74], false⟩),
  (27, ⟨.struct [(0, 25), (1, 25)], 2, 48, [.slice 74, .slice 74], false⟩),
  (29, ⟨.slice 48, 1, 24, [.slice 48], false⟩),
  (31, ⟨.slice 52, 1, 24, [.slice 52], false⟩),
  (33, ⟨.struct [(0, 3), (1, 3), (2, 3), (3, 23), (5, 3), (6, 3), (7, 27), (9, 27), (11, 4), (12, 27), (14, 25), (15, 29), (16, 31), (17, 4)], 18, 288, [.int .i64, .int .i64, .int .i64, .int .i64, .int .i64, .int .i64, .int .i64, .slice 74, .slice 74, .slice 74, .slice 74, .bool, .slice 74, .slice 74, .slice 74, .slice 48, .slice 52, .bool], false⟩),
  (37, ⟨.int .i64, 1, 8, [.int .i64], false⟩),
  (40, ⟨.slice 5, 1, 24, [.slice 5], false⟩),
  (46, ⟨.slice 83, 1, 24, [.slice 83], false⟩),
  (48, ⟨.struct [(0, 3), (1, 3), (2, 3), (3, 46)], 4, 48, [.int .i64, .int .i64, .int .i64, .slice 83], false⟩),
  (52, ⟨.struct [(0, 3), (1, 3)], 2, 16, [.int .i64, .int .i64], true⟩),
  (54, ⟨.ptr 56, 1, 8, [.ptr], false⟩),
  (56, ⟨.struct [(0, 40), (1, 3), (2, 37)], 3, 40, [.slice 5, .int .i64, .int .i64], false⟩),
  (58, ⟨.slice 62, 1, 24, [.slice 62], false⟩),
  (62, ⟨.int .i64, 1, 8, [.int .i64], false⟩),
  (64, ⟨.ptr 33, 1, 8, [.ptr], false⟩),
  (72, ⟨.slice 79, 1, 24, [.slice 79], false⟩),
  (74, ⟨.struct [(0, 3), (1, 3), (2, 72)], 3, 40, [.int .i64, .int .i64, .slice 79], false⟩),
  (77, ⟨.struct [(0, 3), (1, 3), (2, 3)], 3, 24, [.int .i64, .int .i64, .int .i64], true⟩),
  (79, ⟨.struct [(0, 3), (1, 3), (2, 3), (3, 3), (4, 77)], 7, 56, [.int .i64, .int .i64, .int .i64, .int .i64, .int .i64, .int .i64, .int .i64], true⟩),
  (83, ⟨.struct [(0, 3), (1, 9), (2, 9), (3, 2), (4, 9)], 5, 64, [.int .i64, .str, .str, .int .i64, .str], true⟩),
  (84, ⟨.int .u64, 1, 8, [.int .u64], false⟩),
  (96, ⟨.slice 3, 1, 24, [.slice 3], false⟩),
  (114, ⟨.ptr 25, 1, 8, [.ptr], false⟩),
  (115, ⟨.slice 114, 1, 24, [.slice 114], false⟩),
  (124, ⟨.slice 25, 1, 24, [.slice 25], false⟩),
  (126, ⟨.struct [(0, 40), (1, 3), (2, 37)], 3, 40, [.slice 5, .int .i64, .int .i64], false⟩),
  (127, ⟨.ptr 3, 1, 8, [.ptr], false⟩),
  (128, ⟨.slice 127, 1, 24, [.slice 127], false⟩),
  (131, ⟨.struct [(0, 40), (1, 3), (2, 37)], 3, 40, [.slice 5, .int .i64, .int .i64], false⟩),
  (140, ⟨.ptr 126, 1, 8, [.ptr], false⟩),
  (141, ⟨.ptr 131, 1, 8, [.ptr], false⟩)]

noncomputable def codeOf (f : Func) : Code := match f.body with | some c => c | none => .skip
noncomputable def F34 : AFunc := ⟨codeOf Try.f34, (.seq none (.reg [2, 3] []) (.seq none .leaf (.seq none (.seq none .leaf (.sub (.loop [(2, true), (3, true), (5, false)] .leaf))) .leaf))), [74, 74], [.tmp 4], [], [], true⟩
noncomputable def F17 : AFunc := ⟨codeOf Try.f17, (.seq none .leaf (.seq none .leaf (.seq none (.seq none .leaf (.sub (.loop [(0, false), (1, false), (5, false)] .leaf))) .leaf))), [25, 25], [.tmp 4], [], [], true⟩
noncomputable def F19 : AFunc := ⟨codeOf Try.f19, (.seq none .leaf (.seq none .leaf (.seq none (.seq none .leaf (.sub (.loop [(0, false), (1, false), (5, false)] .leaf))) .leaf))), [31, 31], [.tmp 4], [], [], true⟩
noncomputable def F33 : AFunc := ⟨codeOf Try.f33, (.seq none .leaf (.seq none .leaf (.seq none (.seq none .leaf (.sub (.loop [(0, false), (1, false), (12, false), (13, false)] .leaf))) .leaf))), [46, 46], [.tmp 4], [], [], true⟩
noncomputable def F14 : AFunc := ⟨codeOf Try.f14, (.seq none (.reg [2, 3] []) .leaf), [48, 48], [.tmp 4], [], [], true⟩
noncomputable def F35 : AFunc := ⟨codeOf Try.f35, (.seq none (.reg [2, 3] []) (.seq none .leaf (.seq none (.seq none .leaf (.sub (.loop [(2, true), (3, true), (5, false)] .leaf))) .leaf))), [48, 48], [.tmp 4], [], [], true⟩
noncomputable def F18 : AFunc := ⟨codeOf Try.f18, (.seq none .leaf (.seq none .leaf (.seq none (.seq none .leaf (.sub (.loop [(0, false), (1, false), (5, false)] .leaf))) .leaf))), [29, 29], [.tmp 4], [], [], true⟩
noncomputable def F16 : AFunc := ⟨codeOf Try.f16, (.seq none (.reg [2, 3] []) .leaf), [27, 27], [.tmp 4], [], [], true⟩
noncomputable def F32 : AFunc := ⟨codeOf Try.f32, (.seq none .leaf (.seq none .leaf (.seq none (.seq none .leaf (.sub (.loop [(0, false), (1, false), (12, false), (13, false)] .leaf))) .leaf))), [72, 72], [.tmp 4], [], [], true⟩
noncomputable def F31 : AFunc := ⟨codeOf Try.f31, (.seq none (.reg [2, 3] []) .leaf), [74, 74], [.tmp 4], [], [], true⟩
noncomputable def F30 : AFunc := ⟨codeOf Try.f30, (.seq none .leaf (.seq none .leaf (.seq none (.seq none .leaf (.sub (.loop [(1, false), (2, false), (15, false), (16, false), (17, false)] (.seq none .leaf (.seq none .leaf (.seq none (.sub (.seq none (.reg [21] []) (.seq none (.reg [25] []) .leaf))) .leaf)))))) .leaf))), [25, 25, 80], [.tmp 6], [], [], true⟩
noncomputable def F12 : AFunc := ⟨codeOf Try.f12, .leaf, [25, 25], [.tmp 4], [], [], true⟩
noncomputable def F11 : AFunc := ⟨codeOf Try.f11, (.seq none (.reg [2, 3] []) .leaf), [27, 27], [.tmp 4], [], [], true⟩
noncomputable def F13 : AFunc := ⟨codeOf Try.f13, (.seq none .leaf (.seq none .leaf (.seq none (.seq none .leaf (.sub (.loop [(1, false), (2, false), (15, false), (16, false), (17, false)] (.seq none .leaf (.seq none .leaf (.seq none (.sub (.seq none (.reg [21] []) (.seq none (.reg [25] []) .leaf))) .leaf)))))) .leaf))), [29, 29, 49], [.tmp 6], [], [], true⟩
noncomputable def F15 : AFunc := ⟨codeOf Try.f15, (.seq none .leaf (.seq none .leaf (.seq none (.seq none .leaf (.sub (.loop [(0, false), (1, false), (12, false), (13, false)] .leaf))) .leaf))), [31, 31], [.tmp 4], [], [], true⟩
noncomputable def F6 : AFunc := ⟨codeOf Try.f6, (.seq none (.reg [2, 3] []) .leaf), [33, 33], [.tmp 4], [], [], true⟩
noncomputable def F7 : AFunc := ⟨codeOf Try.f7, (.seq none (.reg [2, 3] []) .leaf), [33, 33], [.tmp 4], [], [], true⟩
noncomputable def F4 : AFunc := ⟨codeOf Try.f4, (.seq none (.reg [1] []) .leaf), [33], [.tmp 2], [], [], true⟩
noncomputable def F5 : AFunc := ⟨codeOf Try.f5, (.seq none .leaf (.seq none (.reg [6] []) (.seq none (.reg [7, 11] []) .leaf))), [], [.tmp 0], [], [], true⟩
noncomputable def F3 : AFunc := ⟨codeOf Try.f3, (.seq none (.reg [2, 3] []) .leaf), [33, 33], [.tmp 4], [], [], true⟩
noncomputable def F85 : AFunc := ⟨codeOf Try.f85, .leaf, [3, 3, 3, 4], [.tmp 8], [], [], true⟩
noncomputable def F86 : AFunc := ⟨codeOf Try.f86, .leaf, [77], [.tmp 2], [], [], true⟩
noncomputable def F73 : AFunc := ⟨codeOf Try.f73, .leaf, [79], [.tmp 2], [], [], true⟩
noncomputable def F64 : AFunc := ⟨codeOf Try.f64, (.seq none (.reg [1] []) (.seq none .leaf (.seq none (.seq none .leaf (.sub (.loop [(1, true), (38, false), (39, false), (40, false)] (.seq none .leaf (.seq none .leaf (.seq none (.sub (.seq none .leaf (.seq none .leaf (.seq none .leaf (.sub (.loop [(1, true), (4, false), (38, false), (39, false), (40, false), (53, false), (54, false), (55, false)] .leaf)))))) .leaf)))))) .leaf))), [74], [.tmp 2], [], [], true⟩
noncomputable def F87 : AFunc := ⟨codeOf Try.f87, .leaf, [3], [.tmp 2], [], [], true⟩
noncomputable def F75 : AFunc := ⟨codeOf Try.f75, .leaf, [3, 3], [.tmp 4], [], [], true⟩
noncomputable def F74 : AFunc := ⟨codeOf Try.f74, (.seq none .leaf (.seq none .leaf (.seq none (.seq none .leaf (.sub (.loop [(3, false), (6, false), (7, false), (8, false)] .leaf))) .leaf))), [96], [.tmp 2], [], [], true⟩
noncomputable def F65 : AFunc := ⟨codeOf Try.f65, (.seq none (.reg [2, 3] []) .leaf), [74, 74], [.tmp 4], [], [], true⟩
noncomputable def F46 : AFunc := ⟨codeOf Try.f46, (.seq none (.reg [4] []) (.seq none (.reg [5] []) (.seq none (.sub (.loop [(0, true), (1, false), (5, true)] (.seq none .leaf (.sub (.seq none (.reg [5, 8] []) .leaf))))) (.seq none (.reg [5, 16] []) (.seq none (.reg [4, 21, 26] []) .leaf))))), [40, 84], [.tmp 4], [], [0], true⟩
noncomputable def F37 : AFunc := ⟨codeOf Try.f37, (.seq none .leaf (.scope [(0, false), (5, false), (6, false)] .leaf .leaf)), [40], [.tmp 2, .tmp 3, .tmp 4], [], [], true⟩
noncomputable def F69 : AFunc := ⟨codeOf Try.f69, .leaf, [140], [.tmp 2], [], [], true⟩
noncomputable def F61 : AFunc := ⟨codeOf Try.f61, (.seq none (.reg [3, 4] []) (.seq none (.reg [5] []) (.seq none (.seq none .leaf (.sub (.loop [(0, true), (5, true), (20, false), (21, false), (22, false)] (.seq none .leaf (.seq none .leaf (.seq none (.sub (.seq none .leaf (.reg [5, 26] []))) .leaf)))))) (.seq none .leaf (.seq none (.seq none .leaf (.sub (.loop [(0, true), (8, false), (47, false), (48, false), (49, false)] .leaf))) (.seq none (.reg [4, 58, 63] []) .leaf)))))), [40, 74], [.tmp 4], [], [0], true⟩
noncomputable def F58 : AFunc := ⟨codeOf Try.f58, (.seq none .leaf (.seq none (.reg [12, 13] []) (.seq none (.reg [15] []) (.seq none .leaf (.seq none .leaf (.seq none .leaf (.seq none (.seq none .leaf (.sub (.loop [(2, false), (5, false), (6, false), (7, false), (8, false)] (.seq none .leaf (.seq none (.sub (.seq none .leaf (.seq none (.seq none .leaf (.sub (.loop [(2, false), (5, false), (6, false), (7, false), (8, false), (9, false), (47, false), (48, false), (49, false)] .leaf))) (.reg [58, 61] [])))) .leaf))))) (.seq none .leaf (.seq none (.seq none .leaf (.cond (.seq none (.reg [72] []) .leaf) .leaf)) (.seq none (.reg [75] []) .leaf)))))))))), [40], [.cell 2 74, .tmp 3, .tmp 4], [], [0], true⟩
noncomputable def F54 : AFunc := ⟨codeOf Try.f54, (.seq none .leaf (.seq none (.seq none .leaf (.sub (.loop [(0, false), (6, false), (7, false), (8, false)] (.seq none .leaf (.seq none .leaf (.seq none (.sub (.seq none (.reg [12] []) .leaf)) .leaf)))))) .leaf)), [25], [.tmp 2], [], [], true⟩
noncomputable def F47 : AFunc := ⟨codeOf Try.f47, (.seq none (.reg [4] []) (.seq none (.reg [5] []) (.seq none (.seq none .leaf (.sub (.loop [(0, true), (5, true), (12, false), (13, false), (14, false)] (.seq none .leaf (.seq none .leaf (.seq none (.sub (.seq none (.reg [17] []) (.reg [5, 18] []))) .leaf)))))) (.seq none (.reg [4, 23, 28] []) .leaf)))), [40, 25], [.tmp 4], [], [0], true⟩
noncomputable def F39 : AFunc := ⟨codeOf Try.f39, (.seq none (.reg [2] []) (.seq none .leaf (.seq none (.seq none .leaf (.cond (.seq none (.reg [2] []) .leaf) .leaf)) (.seq none (.seq none .leaf (.cond (.seq none (.reg [2] []) .leaf) .leaf)) (.seq none (.reg [8] []) (.seq none (.seq none .leaf (.sub (.loop [(0, false), (6, false), (8, true), (24, false), (25, false)] (.seq none .leaf (.seq none .leaf (.seq none (.sub (.seq none (.reg [27, 32] []) (.seq none (.seq none .leaf (.cond (.seq none (.reg [2] []) .leaf) .leaf)) (.seq none (.reg [8, 38] []) .leaf)))) .leaf)))))) (.seq none (.seq none .leaf (.seq none .leaf (.cond (.seq none (.reg [2] []) .leaf) .leaf))) (.seq none (.reg [2, 51] []) .leaf)))))))), [40], [.tmp 2, .tmp 3, .tmp 4], [], [0], true⟩
noncomputable def F89 : AFunc := ⟨codeOf Try.f89, .leaf, [79, 79], [.tmp 4], [], [], true⟩
noncomputable def F79 : AFunc := ⟨codeOf Try.f79, (.seq none (.reg [2, 3] []) (.seq none .leaf (.seq none (.seq none .leaf (.sub (.loop [(3, true), (29, false), (30, false), (31, false)] .leaf))) .leaf))), [74, 74], [.tmp 4], [], [], true⟩
noncomputable def F78 : AFunc := ⟨codeOf Try.f78, (.seq none (.reg [2] []) .leaf), [74, 3], [.tmp 3], [], [], true⟩
noncomputable def F88 : AFunc := ⟨codeOf Try.f88, (.seq none .leaf (.seq none (.seq none .leaf (.sub (.loop [(0, false), (1, false), (7, false), (8, false)] .leaf))) .leaf)), [25, 139], [.tmp 4], [], [], true⟩
noncomputable def F77 : AFunc := ⟨codeOf Try.f77, .leaf, [25, 139], [.tmp 4], [], [], true⟩
noncomputable def F68 : AFunc := ⟨codeOf Try.f68, (.seq none .leaf (.seq none (.seq none .leaf (.sub (.loop [(0, false), (7, false), (8, false), (9, false)] (.seq none .leaf (.seq none .leaf (.seq none (.sub (.seq none (.reg [12] []) .leaf)) .leaf)))))) .leaf)), [25, 25], [.tmp 4], [], [], true⟩
noncomputable def F56 : AFunc := ⟨codeOf Try.f56, (.seq none (.reg [1] []) (.seq none (.seq none .leaf (.sub (.loop [(1, true), (10, false), (11, false), (12, false)] .leaf))) .leaf)), [27], [.tmp 2], [], [], true⟩
noncomputable def F42 : AFunc := ⟨codeOf Try.f42, (.seq none .leaf (.seq none .leaf (.seq none .leaf (.seq none (.seq none .leaf (.sub (.loop [(0, false), (2, false), (5, false), (6, false), (15, false), (16, false), (17, false)] (.seq none .leaf (.seq none .leaf (.seq none (.sub (.seq none .leaf (.seq none (.reg [9, 21, 26] []) (.seq none (.seq none .leaf (.cond (.seq none (.reg [31] []) .leaf) .leaf)) (.seq none (.reg [34] []) .leaf))))) .leaf)))))) (.seq none (.seq none .leaf (.seq none .leaf (.cond (.seq none (.reg [44] []) .leaf) .leaf))) (.seq none (.reg [46] []) .leaf)))))), [40], [.cell 2 27, .tmp 3, .tmp 4], [], [0], true⟩
noncomputable def F49 : AFunc := ⟨codeOf Try.f49, (.seq none (.reg [3, 4] []) (.seq none (.reg [4] []) .leaf)), [40, 27], [.tmp 4], [], [0], true⟩
noncomputable def F83 : AFunc := ⟨codeOf Try.f83, .leaf, [83], [.tmp 2], [], [], true⟩
noncomputable def F94 : AFunc := ⟨codeOf Try.f94, .leaf, [83], [.tmp 2], [], [], true⟩
noncomputable def F95 : AFunc := ⟨codeOf Try.f95, (.seq none .leaf (.seq none (.seq none .leaf (.sub (.loop [(0, false), (1, false), (7, false), (8, false)] .leaf))) .leaf)), [46, 157], [.tmp 4], [], [], true⟩
noncomputable def F93 : AFunc := ⟨codeOf Try.f93, .leaf, [46, 157], [.tmp 4], [], [], true⟩
noncomputable def F84 : AFunc := ⟨codeOf Try.f84, (.seq none (.reg [1] []) .leaf), [48], [.tmp 2], [], [], true⟩
noncomputable def F72 : AFunc := ⟨codeOf Try.f72, (.seq none (.reg [1] []) (.seq none .leaf (.seq none (.seq none .leaf (.sub (.loop [(1, true), (46, false), (47, false), (48, false)] .leaf))) .leaf))), [48], [.tmp 2], [], [], true⟩
noncomputable def F76 : AFunc := ⟨codeOf Try.f76, (.seq none (.reg [2, 3] []) .leaf), [48, 48], [.tmp 4], [], [], true⟩
noncomputable def F62 : AFunc := ⟨codeOf Try.f62, (.seq none (.reg [4] []) (.seq none (.reg [4] []) .leaf)), [40, 9], [.tmp 4], [], [0], true⟩
noncomputable def F63 : AFunc := ⟨codeOf Try.f63, (.seq none (.reg [4] []) (.seq none (.reg [4] []) .leaf)), [40, 2], [.tmp 4], [], [0], true⟩
noncomputable def F48 : AFunc := ⟨codeOf Try.f48, (.seq none (.reg [3, 4] []) (.seq none .leaf (.seq none (.seq none .leaf (.sub (.loop [(0, true), (3, true), (5, false), (19, false), (20, false), (21, false)] .leaf))) (.seq none (.seq none .leaf (.sub (.loop [(0, true), (5, false), (31, false), (32, false), (33, false)] .leaf))) (.seq none (.reg [4, 57, 62] []) .leaf))))), [40, 48], [.tmp 4], [], [0], true⟩
noncomputable def F91 : AFunc := ⟨codeOf Try.f91, .leaf, [40], [.tmp 2, .tmp 3, .tmp 4], [], [], true⟩
noncomputable def F90 : AFunc := ⟨codeOf Try.f90, .leaf, [40], [.tmp 2, .tmp 3, .tmp 4], [], [], true⟩
noncomputable def F80 : AFunc := ⟨codeOf Try.f80, .leaf, [141, 3, 37], [], [], [], true⟩
noncomputable def F70 : AFunc := ⟨codeOf Try.f70, .leaf, [141], [.tmp 2], [], [], true⟩
noncomputable def F81 : AFunc := ⟨codeOf Try.f81, .leaf, [141], [.tmp 2], [], [], true⟩
noncomputable def F82 : AFunc := ⟨codeOf Try.f82, .leaf, [141], [.tmp 2], [], [], true⟩
noncomputable def F71 : AFunc := ⟨codeOf Try.f71, .leaf, [141], [.cell 2 83], [], [], true⟩
noncomputable def F60 : AFunc := ⟨codeOf Try.f60, (.seq none .leaf (.seq none (.reg [9, 10] []) (.seq none (.reg [12] []) (.seq none .leaf (.seq none .leaf (.seq none .leaf (.seq none .leaf (.seq none (.seq none .leaf (.sub (.loop [(2, false), (5, false), (6, false), (7, false), (8, false)] (.seq none .leaf (.seq none (.sub (.reg [37, 40] [])) .leaf))))) (.seq none .leaf (.seq none (.seq none .leaf (.cond (.seq none (.reg [51] []) .leaf) .leaf)) (.seq none (.reg [54] []) .leaf))))))))))), [40], [.cell 2 48, .tmp 3, .tmp 4], [], [0], true⟩
noncomputable def F67 : AFunc := ⟨codeOf Try.f67, (.seq none .leaf (.seq none (.seq none .leaf (.sub (.loop [(0, false), (6, false), (7, false), (8, false)] (.seq none .leaf (.seq none .leaf (.seq none (.sub (.seq none (.reg [12] []) .leaf)) .leaf)))))) .leaf)), [29], [.tmp 2], [], [], true⟩
noncomputable def F57 : AFunc := ⟨codeOf Try.f57, (.seq none .leaf (.seq none (.seq none .leaf (.sub (.loop [(0, false), (5, false), (6, false), (7, false)] .leaf))) .leaf)), [31], [.tmp 2], [], [], true⟩
noncomputable def F45 : AFunc := ⟨codeOf Try.f45, .leaf, [40], [.tmp 2, .tmp 3, .tmp 4], [], [], true⟩
noncomputable def F50 : AFunc := ⟨codeOf Try.f50, (.seq none (.reg [4] []) (.seq none (.seq none .leaf (.cond (.seq none (.reg [4, 6, 11] []) .leaf) .leaf)) (.seq none (.reg [4, 14, 19] []) .leaf))), [40, 4], [.tmp 4], [], [0], true⟩
noncomputable def F51 : AFunc := ⟨codeOf Try.f51, .leaf, [3], [.tmp 2], [], [], true⟩
noncomputable def F52 : AFunc := ⟨codeOf Try.f52, (.seq none .leaf (.seq none (.seq none .leaf (.sub (.loop [(0, false), (1, false), (7, false), (8, false)] .leaf))) .leaf)), [58, 62], [.tmp 4], [], [], true⟩
noncomputable def F27 : AFunc := ⟨codeOf Try.f27, .leaf, [58, 62], [.tmp 4], [], [], true⟩
noncomputable def F53 : AFunc := ⟨codeOf Try.f53, (.seq none (.reg [1] []) .leaf), [27], [.tmp 2], [], [], true⟩
noncomputable def F26 : AFunc := ⟨codeOf Try.f26, .leaf, [3], [.tmp 2], [], [], true⟩
noncomputable def F28 : AFunc := ⟨codeOf Try.f28, (.seq none (.reg [2] []) .leaf), [33, 62], [.tmp 4], [], [], true⟩
noncomputable def F66 : AFunc := ⟨codeOf Try.f66, (.seq none .leaf (.seq none .leaf (.seq none (.seq none .leaf (.sub (.loop [(0, false), (9, false), (10, false), (11, false)] (.seq none .leaf (.seq none .leaf (.seq none (.sub (.seq none (.reg [15] []) .leaf)) .leaf)))))) .leaf))), [29], [.tmp 2], [], [], true⟩
noncomputable def F55 : AFunc := ⟨codeOf Try.f55, (.seq none (.reg [1] []) .leaf), [33], [.tmp 2], [], [], true⟩
noncomputable def F29 : AFunc := ⟨codeOf Try.f29, (.seq none (.reg [2] []) .leaf), [33, 62], [.tmp 4], [], [], true⟩
noncomputable def F10 : AFunc := ⟨codeOf Try.f10, (.seq none (.reg [1] []) (.seq none .leaf (.seq none .leaf (.seq none .leaf (.seq none (.seq none .leaf (.sub (.loop [(1, true), (3, false), (27, false)] .leaf))) (.seq none (.seq none .leaf (.sub (.loop [(1, true), (41, false), (42, false), (43, false)] .leaf))) .leaf)))))), [33], [.tmp 2], [], [], true⟩
noncomputable def F24 : AFunc := ⟨codeOf Try.f24, (.seq none (.reg [2] []) (.seq none (.reg [3] []) (.seq none (.seq none .leaf (.sub (.loop [(3, true), (6, false), (7, false), (8, false)] (.seq none .leaf (.seq none .leaf (.seq none (.sub (.seq none .leaf (.reg [3] []))) .leaf)))))) (.seq none (.reg [2, 17] []) .leaf)))), [96], [.tmp 2], [], [0], true⟩
noncomputable def F25 : AFunc := ⟨codeOf Try.f25, (.seq none (.reg [2, 4] []) (.seq none (.seq none .leaf (.sub (.seq none .leaf (.cond (.seq none (.reg [4] []) .leaf) (.seq none .leaf (.cond (.seq none (.reg [4] []) .leaf) (.seq none .leaf (.cond (.seq none (.reg [4] []) .leaf) (.seq none .leaf (.cond (.seq none (.reg [4] []) .leaf) (.seq none .leaf (.cond (.seq none (.reg [5] []) (.seq none (.seq none .leaf (.sub (.loop [(5, true), (47, false), (48, false), (49, false)] (.seq none .leaf (.seq none .leaf (.seq none (.sub (.seq none (.reg [52] []) (.reg [5, 53] []))) .leaf)))))) (.seq none (.reg [4, 58] []) .leaf))) (.seq none .leaf (.cond (.seq none (.reg [4] []) .leaf) (.seq none .leaf (.cond (.seq none (.reg [8] []) (.seq none (.seq none .leaf (.sub (.loop [(8, true), (72, false), (73, false), (74, false)] (.seq none .leaf (.seq none .leaf (.seq none (.sub (.seq none .leaf (.reg [8, 78] []))) .leaf)))))) (.seq none (.reg [4, 87] []) .leaf))) (.seq none .leaf (.cond (.seq none (.reg [4] []) .leaf) (.seq none .leaf (.cond (.seq none (.reg [4] []) .leaf) (.seq none .leaf (.cond (.seq none (.seq none .leaf (.cond (.seq none (.reg [4] []) .leaf) .leaf)) (.seq none (.reg [4] []) .leaf)) .leaf)))))))))))))))))))))) (.seq none (.reg [4] []) .leaf))), [33, 62], [.tmp 4], [], [], true⟩
noncomputable def F9 : AFunc := ⟨codeOf Try.f9, (.seq none (.reg [3, 4] []) (.seq none (.reg [5] []) (.seq none .leaf (.seq none (.seq none .leaf (.sub (.loop [(0, true), (3, true), (5, true), (24, false), (25, false), (26, false)] (.seq none .leaf (.seq none .leaf (.seq none (.sub (.seq none .leaf (.reg [5, 30] []))) .leaf)))))) (.seq none (.reg [4, 36, 41] []) .leaf))))), [40, 33], [.tmp 4], [], [0], true⟩
noncomputable def F36 : AFunc := ⟨codeOf Try.f36, .leaf, [54, 86], [.tmp 4], [], [], true⟩
noncomputable def F22 : AFunc := ⟨codeOf Try.f22, .leaf, [54, 4, 37], [], [], [], true⟩
noncomputable def F20 : AFunc := ⟨codeOf Try.f20, .leaf, [54], [.tmp 2], [], [], true⟩
noncomputable def F38 : AFunc := ⟨codeOf Try.f38, .leaf, [54, 89], [.tmp 4], [], [], true⟩
noncomputable def F41 : AFunc := ⟨codeOf Try.f41, .leaf, [54, 92], [.cell 4 27], [], [], true⟩
noncomputable def F44 : AFunc := ⟨codeOf Try.f44, .leaf, [54, 95], [.tmp 4], [], [], true⟩
noncomputable def F59 : AFunc := ⟨codeOf Try.f59, .leaf, [54, 112], [.cell 4 48], [], [], true⟩
noncomputable def F40 : AFunc := ⟨codeOf Try.f40, (.seq none (.reg [2] []) (.seq none .leaf (.seq none .leaf (.seq none (.reg [4] []) (.seq none (.seq none .leaf (.sub (.loop [(0, false), (3, false), (4, true), (5, false)] (.seq none .leaf (.seq none (.sub (.reg [4, 24] [])) .leaf))))) (.seq none (.reg [2, 29] []) .leaf)))))), [54], [.tmp 2], [], [], true⟩
noncomputable def F43 : AFunc := ⟨codeOf Try.f43, (.seq none (.reg [2] []) (.seq none .leaf (.seq none .leaf (.seq none (.reg [4] []) (.seq none (.seq none .leaf (.sub (.loop [(0, false), (3, false), (4, true), (5, false)] (.seq none .leaf (.seq none (.sub (.seq none .leaf (.seq none .leaf (.reg [4, 31] [])))) .leaf))))) (.seq none (.reg [2, 35] []) .leaf)))))), [54], [.tmp 2], [], [], true⟩
noncomputable def F23 : AFunc := ⟨codeOf Try.f23, (.seq none .leaf (.sub (.seq none .leaf (.cond .leaf (.seq none .leaf (.cond .leaf (.seq none .leaf (.cond .leaf (.seq none .leaf (.cond (.reg [39] []) (.seq none .leaf (.cond (.reg [46] []) (.seq none .leaf (.cond (.reg [53] []) (.seq none .leaf (.cond (.reg [60] []) (.seq none .leaf (.cond .leaf (.seq none .leaf (.cond .leaf (.seq none .leaf (.cond (.seq none .leaf (.cond (.reg [85] []) .leaf)) (.seq none .leaf (.cond (.reg [92] []) .leaf)))))))))))))))))))))))), [54, 64, 62], [], [], [], true⟩
noncomputable def F8 : AFunc := ⟨codeOf Try.f8, (.seq none .leaf (.seq none (.reg [13] []) (.seq none (.reg [16] []) (.seq none .leaf (.seq none .leaf (.seq none .leaf (.seq none .leaf (.seq none (.seq none .leaf (.sub (.loop [(2, false), (5, false), (6, false), (33, false), (34, false), (35, false)] .leaf))) (.seq none .leaf (.seq none (.seq none .leaf (.cond (.seq none (.reg [58] []) .leaf) .leaf)) (.seq none (.reg [63] []) .leaf))))))))))), [40], [.cell 2 33, .tmp 3, .tmp 4], [], [], true⟩
noncomputable def fnTab : List (Nat × (Sig × FnDef)) := [
  (8, (⟨[.agg [.int .i64, .int .i64, .int .i64, .int .i64, .int .i64, .int .i64, .int .i64, .sl false 74, .sl false 74, .sl false 74, .sl false 74, .bool, .sl false 74, .sl false 74, .sl false 74, .sl false 48, .sl false 52, .bool], .one (.int .i64), .one (.int .i64)], []⟩, .code F8)),
  (23, (⟨[], [[.sl false 5, .int .i64, .int .i64], [.int .i64, .int .i64, .int .i64, .int .i64, .int .i64, .int .i64, .int .i64, .sl false 74, .sl false 74, .sl false 74, .sl false 74, .bool, .sl false 74, .sl false 74, .sl false 74, .sl false 48, .sl false 52, .bool]]⟩, .code F23)),
  (43, (⟨[.one (.sl false 52)], [[.sl false 5, .int .i64, .int .i64]]⟩, .code F43)),
  (40, (⟨[.one (.sl false 48)], [[.sl false 5, .int .i64, .int .i64]]⟩, .code F40)),
  (59, (⟨[.agg [.int .i64, .int .i64, .int .i64, .sl false 83]], [[.sl false 5, .int .i64, .int .i64]]⟩, .code F59)),
  (44, (⟨[.one (.bool)], [[.sl false 5, .int .i64, .int .i64]]⟩, .code F44)),
  (41, (⟨[.agg [.sl false 74, .sl false 74]], [[.sl false 5, .int .i64, .int .i64]]⟩, .code F41)),
  (38, (⟨[.one (.sl false 74)], [[.sl false 5, .int .i64, .int .i64]]⟩, .code F38)),
  (20, (⟨[.one (.int .i64)], [[.sl false 5, .int .i64, .int .i64]]⟩, .code F20)),
  (22, (⟨[], [[.sl false 5, .int .i64, .int .i64]]⟩, .code F22)),
  (36, (⟨[.one (.int .u64)], [[.sl false 5, .int .i64, .int .i64]]⟩, .code F36)),
  (9, (⟨[.one (.sl true 5)], []⟩, .code F9)),
  (25, (⟨[.one (.sl false 5)], []⟩, .code F25)),
  (24, (⟨[.one (.sl true 5)], []⟩, .code F24)),
  (10, (⟨[.one (.int .i64)], []⟩, .code F10)),
  (29, (⟨[.one (.int .i64)], []⟩, .code F29)),
  (55, (⟨[.one (.int .i64)], []⟩, .code F55)),
  (66, (⟨[.one (.int .i64)], []⟩, .code F66)),
  (28, (⟨[.one (.bool)], []⟩, .code F28)),
  (26, (⟨[.one (.bool)], []⟩, .code F26)),
  (53, (⟨[.one (.bool)], []⟩, .code F53)),
  (27, (⟨[.one (.bool)], []⟩, .code F27)),
  (52, (⟨[.one (.int .i64)], []⟩, .code F52)),
  (51, (⟨[.one (.bool)], []⟩, .code F51)),
  (50, (⟨[.one (.sl true 5)], []⟩, .code F50)),
  (45, (⟨[.one (.bool), .one (.int .i64), .one (.int .i64)], []⟩, .code F45)),
  (57, (⟨[.one (.int .i64)], []⟩, .code F57)),
  (67, (⟨[.one (.int .i64)], []⟩, .code F67)),
  (60, (⟨[.agg [.int .i64, .int .i64, .int .i64, .sl true 83], .one (.int .i64), .one (.int .i64)], []⟩, .code F60)),
  (71, (⟨[.agg [.int .i64, .str, .str, .int .i64, .str]], [[.sl false 5, .int .i64, .int .i64]]⟩, .code F71)),
  (82, (⟨[.one (.int .i64)], [[.sl false 5, .int .i64, .int .i64]]⟩, .code F82)),
  (81, (⟨[.one (.str)], [[.sl false 5, .int .i64, .int .i64]]⟩, .code F81)),
  (70, (⟨[.one (.int .i64)], [[.sl false 5, .int .i64, .int .i64]]⟩, .code F70)),
  (80, (⟨[], [[.sl false 5, .int .i64, .int .i64]]⟩, .code F80)),
  (90, (⟨[.one (.str), .one (.int .i64), .one (.int .i64)], []⟩, .code F90)),
  (91, (⟨[.one (.int .i64), .one (.int .i64), .one (.int .i64)], []⟩, .code F91)),
  (48, (⟨[.one (.sl true 5)], []⟩, .code F48)),
  (63, (⟨[.one (.sl true 5)], []⟩, .code F63)),
  (62, (⟨[.one (.sl true 5)], []⟩, .code F62)),
  (76, (⟨[.one (.int .i64)], []⟩, .code F76)),
  (72, (⟨[.one (.int .i64)], []⟩, .code F72)),
  (84, (⟨[.one (.bool)], []⟩, .code F84)),
  (93, (⟨[.one (.bool)], []⟩, .code F93)),
  (95, (⟨[.one (.int .i64)], []⟩, .code F95)),
  (94, (⟨[.one (.bool)], []⟩, .code F94)),
  (83, (⟨[.one (.int .i64)], []⟩, .code F83)),
  (49, (⟨[.one (.sl true 5)], []⟩, .code F49)),
  (42, (⟨[.agg [.sl true 74, .sl true 74], .one (.int .i64), .one (.int .i64)], []⟩, .code F42)),
  (56, (⟨[.one (.int .i64)], []⟩, .code F56)),
  (68, (⟨[.one (.bool)], []⟩, .code F68)),
  (77, (⟨[.one (.bool)], [[.int .i64, .int .i64, .sl false 79]]⟩, .code F77)),
  (88, (⟨[.one (.int .i64)], [[.int .i64, .int .i64, .sl false 79]]⟩, .code F88)),
  (78, (⟨[.one (.bool)], [[.int .i64, .int .i64, .sl false 79]]⟩, .code F78)),
  (79, (⟨[.one (.bool)], []⟩, .code F79)),
  (89, (⟨[.one (.bool)], []⟩, .code F89)),
  (39, (⟨[.one (.sl true 74), .one (.int .i64), .one (.int .i64)], []⟩, .code F39)),
  (47, (⟨[.one (.sl true 5)], []⟩, .code F47)),
  (54, (⟨[.one (.int .i64)], []⟩, .code F54)),
  (58, (⟨[.agg [.int .i64, .int .i64, .sl true 79], .one (.int .i64), .one (.int .i64)], []⟩, .code F58)),
  (61, (⟨[.one (.sl true 5)], []⟩, .code F61)),
  (69, (⟨[.one (.int .i64)], [[.sl false 5, .int .i64, .int .i64]]⟩, .code F69)),
  (37, (⟨[.one (.int .u64), .one (.int .i64), .one (.int .i64)], []⟩, .code F37)),
  (46, (⟨[.one (.sl true 5)], []⟩, .code F46)),
  (65, (⟨[.one (.int .i64)], []⟩, .code F65)),
  (74, (⟨[.one (.int .i64)], []⟩, .code F74)),
  (75, (⟨[.one (.int .i64)], []⟩, .code F75)),
  (87, (⟨[.one (.bool)], []⟩, .code F87)),
  (64, (⟨[.one (.int .i64)], []⟩, .code F64)),
  (73, (⟨[.one (.int .i64)], []⟩, .code F73)),
  (86, (⟨[.one (.int .i64)], []⟩, .code F86)),
  (85, (⟨[.one (.bool)], []⟩, .code F85)),
  (3, (⟨[.one (.bool)], []⟩, .code F3)),
  (5, (⟨[.one (.bool)], []⟩, .code F5)),
  (92, (⟨[.one (.bool)], []⟩, .prim prim92)),
  (21, (⟨[.one (.sl false 62), .one (.bool)], []⟩, .prim (primUsed 62))),
  (4, (⟨[.one (.bool)], []⟩, .code F4)),
  (7, (⟨[.one (.bool)], []⟩, .code F7)),
  (6, (⟨[.one (.bool)], []⟩, .code F6)),
  (15, (⟨[.one (.bool)], []⟩, .code F15)),
  (13, (⟨[.one (.bool)], []⟩, .code F13)),
  (11, (⟨[.one (.bool)], []⟩, .code F11)),
  (12, (⟨[.one (.bool)], []⟩, .code F12)),
  (30, (⟨[.one (.bool)], []⟩, .code F30)),
  (31, (⟨[.one (.bool)], []⟩, .code F31)),
  (32, (⟨[.one (.bool)], []⟩, .code F32)),
  (16, (⟨[.one (.bool)], []⟩, .code F16)),
  (18, (⟨[.one (.bool)], []⟩, .code F18)),
  (35, (⟨[.one (.bool)], []⟩, .code F35)),
  (14, (⟨[.one (.bool)], []⟩, .code F14)),
  (33, (⟨[.one (.bool)], []⟩, .code F33)),
  (19, (⟨[.one (.bool)], []⟩, .code F19)),
  (17, (⟨[.one (.bool)], []⟩, .code F17)),
  (34, (⟨[.one (.bool)], []⟩, .code F34))]
noncomputable def E : Env := ⟨lookT tyTab, lookT fnTab⟩
def s34 : Go.Abs.Spec := fun args blk => match args, blk with
  | [.agg [.int .i64 ap, .int .i64 np, .sl false 79 cp], .agg [.int .i64 aq, .int .i64 nq, .sl false 79 cq]], [] => ((decide (cp.length < 9223372036854775808)), ([.one (.bool (eqP ap np cp aq nq cq))], []))
  | _, _ => (false, ([], []))
def s17 : Go.Abs.Spec := fun args blk => match args, blk with
  | [.one (.sl false 74 c), .one (.sl false 74 d)], [] => ((okRows c), ([.one (.bool (eqCfg c d))], []))
  | _, _ => (false, ([], []))
def s19 : Go.Abs.Spec := fun args blk => match args, blk with
  | [.one (.sl false 52 v), .one (.sl false 52 w)], [] => ((okLn v), ([.one (.bool (eqVec v w))], []))
  | _, _ => (false, ([], []))
def s33 : Go.Abs.Spec := fun args blk => match args, blk with
  | [.one (.sl false 83 x), .one (.sl false 83 y)], [] => ((decide (x.length < 9223372036854775808)), ([.one (.bool (eqEffs x y))], []))
  | _, _ => (false, ([], []))
def s14 : Go.Abs.Spec := fun args blk => match args, blk with
  | [.agg [.int .i64 cu, .int .i64 qu, .int .i64 tu, .sl false 83 eu], .agg [.int .i64 cv, .int .i64 qv, .int .i64 tv, .sl false 83 ev]], [] => ((decide (eu.length < 9223372036854775808)), ([.one (.bool (eqU cu qu tu eu cv qv tv ev))], []))
  | _, _ => (false, ([], []))
def s35 : Go.Abs.Spec := fun args blk => match args, blk with
  | [.agg [.int .i64 cu, .int .i64 qu, .int .i64 tu, .sl false 83 eu], .agg [.int .i64 cv, .int .i64 qv, .int .i64 tv, .sl false 83 ev]], [] => ((decide (eu.length < 9223372036854775808)), ([.one (.bool (eqU cu qu tu eu cv qv tv ev))], []))
  | _, _ => (false, ([], []))
def s18 : Go.Abs.Spec := fun args blk => match args, blk with
  | [.one (.sl false 48 c), .one (.sl false 48 d)], [] => ((okRowsU c), ([.one (.bool (eqSt c d))], []))
  | _, _ => (false, ([], []))
def s16 : Go.Abs.Spec := fun args blk => match args, blk with
  | [.agg [.sl false 74 f1, .sl false 74 t1], .agg [.sl false 74 f2, .sl false 74 t2]], [] => ((okRows f1 && okRows t1), ([.one (.bool (eqCfg f1 f2 && eqCfg t1 t2))], []))
  | _, _ => (false, ([], []))
def s32 : Go.Abs.Spec := fun args blk => match args, blk with
  | [.one (.sl false 79 x), .one (.sl false 79 y)], [] => ((decide (x.length < 9223372036854775808)), ([.one (.bool (decide (x.length = y.length) && eqChs x y))], []))
  | _, _ => (false, ([], []))
def s31 : Go.Abs.Spec := fun args blk => match args, blk with
  | [.agg [.int .i64 ap, .int .i64 np, .sl false 79 cp], .agg [.int .i64 aq, .int .i64 nq, .sl false 79 cq]], [] => ((decide (cp.length < 9223372036854775808)), ([.one (.bool (eqP ap np cp aq nq cq))], []))
  | _, _ => (false, ([], []))
def s30 : Go.Abs.Spec := fun args blk => match args, blk with
  | [.one (.sl false 74 c), .one (.sl false 74 d), .one (.fn 31 [])], [] => ((okRows c), ([.one (.bool (eqCfg c d))], []))
  | _, _ => (false, ([], []))
def s12 : Go.Abs.Spec := fun args blk => match args, blk with
  | [.one (.sl false 74 c), .one (.sl false 74 d)], [] => ((okRows c), ([.one (.bool (eqCfg c d))], []))
  | _, _ => (false, ([], []))
def s11 : Go.Abs.Spec := fun args blk => match args, blk with
  | [.agg [.sl false 74 f1, .sl false 74 t1], .agg [.sl false 74 f2, .sl false 74 t2]], [] => ((okRows f1 && okRows t1), ([.one (.bool (eqCfg f1 f2 && eqCfg t1 t2))], []))
  | _, _ => (false, ([], []))
def s13 : Go.Abs.Spec := fun args blk => match args, blk with
  | [.one (.sl false 48 c), .one (.sl false 48 d), .one (.fn 14 [])], [] => ((okRowsU c), ([.one (.bool (eqSt c d))], []))
  | _, _ => (false, ([], []))
def s15 : Go.Abs.Spec := fun args blk => match args, blk with
  | [.one (.sl false 52 v), .one (.sl false 52 w)], [] => ((okLn v), ([.one (.bool (eqVec v w))], []))
  | _, _ => (false, ([], []))
def s6 : Go.Abs.Spec := fun args blk => match args, blk with
  | [.agg [.int .i64 k1, .int .i64 f1, .int .i64 t1, .int .i64 p1, .int .i64 n1, .int .i64 r1, .int .i64 o1, .sl false 74 cf1, .sl false 74 ct1, .sl false 74 bf1, .sl false 74 bt1, .bool h1, .sl false 74 ef1, .sl false 74 et1, .sl false 74 g1, .sl false 48 u1, .sl false 52 v1, .bool m1], .agg [.int .i64 k2, .int .i64 f2, .int .i64 t2, .int .i64 p2, .int .i64 n2, .int .i64 r2, .int .i64 o2, .sl false 74 cf2, .sl false 74 ct2, .sl false 74 bf2, .sl false 74 bt2, .bool h2, .sl false 74 ef2, .sl false 74 et2, .sl false 74 g2, .sl false 48 u2, .sl false 52 v2, .bool m2]], [] => ((okM cf1 ct1 bf1 bt1 ef1 et1 g1 u1 v1), ([.one (.bool (eqM k1 f1 t1 p1 n1 r1 o1 cf1 ct1 bf1 bt1 h1 ef1 et1 g1 u1 v1 m1 k2 f2 t2 p2 n2 r2 o2 cf2 ct2 bf2 bt2 h2 ef2 et2 g2 u2 v2 m2))], []))
  | _, _ => (false, ([], []))
def s7 : Go.Abs.Spec := fun args blk => match args, blk with
  | [.agg [.int .i64 k1, .int .i64 f1, .int .i64 t1, .int .i64 p1, .int .i64 n1, .int .i64 r1, .int .i64 o1, .sl false 74 cf1, .sl false 74 ct1, .sl false 74 bf1, .sl false 74 bt1, .bool h1, .sl false 74 ef1, .sl false 74 et1, .sl false 74 g1, .sl false 48 u1, .sl false 52 v1, .bool m1], .agg [.int .i64 k2, .int .i64 f2, .int .i64 t2, .int .i64 p2, .int .i64 n2, .int .i64 r2, .int .i64 o2, .sl false 74 cf2, .sl false 74 ct2, .sl false 74 bf2, .sl false 74 bt2, .bool h2, .sl false 74 ef2, .sl false 74 et2, .sl false 74 g2, .sl false 48 u2, .sl false 52 v2, .bool m2]], [] => ((okM cf1 ct1 bf1 bt1 ef1 et1 g1 u1 v1), ([.one (.bool (eqM k1 f1 t1 p1 n1 r1 o1 cf1 ct1 bf1 bt1 h1 ef1 et1 g1 u1 v1 m1 k2 f2 t2 p2 n2 r2 o2 cf2 ct2 bf2 bt2 h2 ef2 et2 g2 u2 v2 m2))], []))
  | _, _ => (false, ([], []))
def s4 : Go.Abs.Spec := fun args blk => match args, blk with
  | [.agg [.int .i64 k1, .int .i64 f1, .int .i64 t1, .int .i64 p1, .int .i64 n1, .int .i64 r1, .int .i64 o1, .sl false 74 cf1, .sl false 74 ct1, .sl false 74 bf1, .sl false 74 bt1, .bool h1, .sl false 74 ef1, .sl false 74 et1, .sl false 74 g1, .sl false 48 u1, .sl false 52 v1, .bool m1]], [] => (true, ([.one (.bool (shortM cf1 ct1 bf1 bt1 ef1 et1 g1 u1 v1))], []))
  | _, _ => (false, ([], []))
def s21 : Go.Abs.Spec := fun args blk => match args, blk with
  | [.one (.int .i64 k)], [] => (true, ([.one (.sl false 62 (usedR k)), .one (.bool ((usedL k).isSome))], []))
  | _, _ => (false, ([], []))
def s92 : Go.Abs.Spec := fun args blk => match args, blk with
  | [.one (.str s)], [] => (true, ([.one (.bool (s.isEmpty))], []))
  | _, _ => (false, ([], []))
def s5 : Go.Abs.Spec := fun args blk => match args, blk with
  | [], [] => (true, ([.one (.bool true)], []))
  | _, _ => (false, ([], []))
def s3 : Go.Abs.Spec := fun args blk => match args, blk with
  | [.agg [.int .i64 k1, .int .i64 f1, .int .i64 t1, .int .i64 p1, .int .i64 n1, .int .i64 r1, .int .i64 o1, .sl false 74 cf1, .sl false 74 ct1, .sl false 74 bf1, .sl false 74 bt1, .bool h1, .sl false 74 ef1, .sl false 74 et1, .sl false 74 g1, .sl false 48 u1, .sl false 52 v1, .bool m1], .agg [.int .i64 k2, .int .i64 f2, .int .i64 t2, .int .i64 p2, .int .i64 n2, .int .i64 r2, .int .i64 o2, .sl false 74 cf2, .sl false 74 ct2, .sl false 74 bf2, .sl false 74 bt2, .bool h2, .sl false 74 ef2, .sl false 74 et2, .sl false 74 g2, .sl false 48 u2, .sl false 52 v2, .bool m2]], [] => ((okArgM cf1 ct1 bf1 bt1 ef1 et1 g1 u1 v1), ([.one (.bool true)], []))
  | _, _ => (false, ([], []))
def L : List (Nat × Go.Abs.Spec) := []
def L34 : List (Nat × Go.Abs.Spec) := (34, s34) :: L
def L17 : List (Nat × Go.Abs.Spec) := (17, s17) :: L34
def L19 : List (Nat × Go.Abs.Spec) := (19, s19) :: L17
def L33 : List (Nat × Go.Abs.Spec) := (33, s33) :: L19
def L14 : List (Nat × Go.Abs.Spec) := (14, s14) :: L33
def L35 : List (Nat × Go.Abs.Spec) := (35, s35) :: L14
def L18 : List (Nat × Go.Abs.Spec) := (18, s18) :: L35
def L16 : List (Nat × Go.Abs.Spec) := (16, s16) :: L18
def L32 : List (Nat × Go.Abs.Spec) := (32, s32) :: L16
def L31 : List (Nat × Go.Abs.Spec) := (31, s31) :: L32
def L30 : List (Nat × Go.Abs.Spec) := (30, s30) :: L31
def L12 : List (Nat × Go.Abs.Spec) := (12, s12) :: L30
def L11 : List (Nat × Go.Abs.Spec) := (11, s11) :: L12
def L13 : List (Nat × Go.Abs.Spec) := (13, s13) :: L11
def L15 : List (Nat × Go.Abs.Spec) := (15, s15) :: L13
def L6 : List (Nat × Go.Abs.Spec) := (6, s6) :: L15
def L7 : List (Nat × Go.Abs.Spec) := (7, s7) :: L6
def L4 : List (Nat × Go.Abs.Spec) := (4, s4) :: L7
def L21 : List (Nat × Go.Abs.Spec) := (21, s21) :: L4
def L92 : List (Nat × Go.Abs.Spec) := (92, s92) :: L21
def L5 : List (Nat × Go.Abs.Spec) := (5, s5) :: L92
def L3 : List (Nat × Go.Abs.Spec) := (3, s3) :: L5
theorem tabs : tabB Try.prog E tyTab = true := by kernel_rfl
theorem good : Go.Abs.Good Try.prog E := good_of (l := tyTab) rfl tabs

end Go.Proofs.Ytejimgikldiajaa
