/-
  Merged texts: Tab, Eq1, Wt, W1, W2, W3, W4, W5, Eq2, W6, W7.
-/
import Derived.Test.YtpafnokcmhlbgaaZ3
import Derived.Test.YtpafnokcmhlbgaaProg

namespace Go.Proofs.Ytpafnokcmhlbgaa

open Go.Abs

def tyTab : List (Nat × Ty) := [
  (3, ⟨.int .i64, 1, 8, [.int .i64], false⟩),
  (4, ⟨.bool, 1, 1, [.bool], false⟩),
  (5, ⟨.int .u8, 1, 1, [.int .u8], false⟩),
  (9, ⟨.str, 1, 16, [.str], false⟩),
  (22, ⟨.slice 5, 1, 24, [.slice 5], false⟩),
  (23, ⟨.slice 22, 1, 24, [.slice 22], false⟩),
  (25, ⟨.ptr 79, 1, 8, [.ptr], false⟩),
  (27, ⟨.slice 99, 1, 24, [.slice 99], false⟩),
  (29, ⟨.struct [(0, 22), (1, 27), (2, 4), (3, 4), (4, 3)], 5, 64, [.slice 5, .slice 99, .bool, .bool, .int .i64], false⟩),
  (33, ⟨.int .u64, 1, 8, [.int .u64], false⟩),
  (34, ⟨.array 2 3, 2, 16, [.int .i64, .int .i64], false⟩),
  (36, ⟨.ptr 29, 1, 8, [.ptr], false⟩),
  (40, ⟨.int .i64, 1, 8, [.int .i64], false⟩),
  (42, ⟨.ptr 87, 1, 8, [.ptr], false⟩),
  (45, ⟨.ptr 54, 1, 8, [.ptr], false⟩),
  (54, ⟨.struct [(0, 36), (1, 3), (2, 33), (3, 23), (4, 3), (5, 4)], 6, 64, [.ptr, .int .i64, .int .u64, .slice 22, .int .i64, .bool], false⟩),
  (65, ⟨.slice 67, 1, 24, [.slice 67], false⟩),
  (67, ⟨.struct [(0, 3), (1, 3), (2, 3), (3, 23)], 4, 48, [.int .i64, .int .i64, .int .i64, .slice 22], false⟩),
  (74, ⟨.struct [(0, 3), (1, 3)], 2, 16, [.int .i64, .int .i64], false⟩),
  (77, ⟨.slice 85, 1, 24, [.slice 85], false⟩),
  (79, ⟨.struct [(0, 22), (1, 22), (2, 77), (3, 4), (4, 3), (5, 4)], 6, 96, [.slice 5, .slice 5, .slice 85, .bool, .int .i64, .bool], false⟩),
  (81, ⟨.int .u32, 1, 4, [.int .u32], false⟩),
  (85, ⟨.struct [(0, 3), (1, 22)], 2, 32, [.int .i64, .slice 5], false⟩),
  (87, ⟨.struct [(0, 25), (1, 3), (2, 33), (3, 23), (4, 3), (5, 4)], 6, 64, [.ptr, .int .i64, .int .u64, .slice 22, .int .i64, .bool], false⟩),
  (88, ⟨.array 2 33, 2, 16, [.int .u64, .int .u64], false⟩),
  (89, ⟨.array 2 22, 2, 48, [.slice 5, .slice 5], false⟩),
  (99, ⟨.struct [(0, 3), (1, 22)], 2, 32, [.int .i64, .slice 5], false⟩),
  (112, ⟨.array 30016 5, 30016, 30016, (List.replicate 30016 (.int .u8)), false⟩)]

noncomputable def codeOf (f : Func) : Code := match f.body with | some c => c | none => .skip

noncomputable def F11 : AFunc := ⟨codeOf Try.f11, .leaf, [3, 3], [.tmp 4], [], [], true⟩

noncomputable def F72 : AFunc := ⟨codeOf Try.f72, (.seq none (.reg [6] []) (.seq none (.seq none .leaf (.sub (.sub (.seq none .leaf (.seq none (.sub (.reg [0, 14] [])) .leaf))))) (.seq none (.reg [6, 22] []) .leaf))), [22, 33, 3], [.tmp 6], [], [], true⟩

noncomputable def F73 : AFunc := ⟨codeOf Try.f73, (.seq none .leaf (.seq none .leaf (.seq none (.seq none .leaf (.sub (.loop [(3, false), (7, false), (8, false), (9, false)] (.seq none .leaf (.seq none .leaf (.seq none (.sub (.seq none .leaf (.seq none .leaf (.seq none .leaf (.sub (.loop [(3, false), (7, false), (8, false), (9, false), (17, false)] .leaf)))))) .leaf)))))) .leaf))), [22], [.tmp 2], [], [], true⟩

noncomputable def F71 : AFunc := ⟨codeOf Try.f71, (.seq none .leaf (.seq none .leaf (.seq none (.seq none .leaf (.sub (.loop [(3, false), (6, false), (7, false), (8, false)] .leaf))) .leaf))), [22], [.tmp 2], [], [], true⟩

noncomputable def F51 : AFunc := ⟨codeOf Try.f51, (.seq none (.reg [2] []) (.seq none (.reg [3, 7000000] []) (.seq none (.reg [3] [(2, ⟨[.one (.int .u32)], [[.arrp 5]], []⟩)]) (.seq none (.reg [2, 13, 2000002] []) .leaf)))), [33], [.tmp 2], [], [], true⟩

noncomputable def F46 : AFunc := ⟨codeOf Try.f46, .leaf, [22], [.tmp 2], [], [], true⟩

noncomputable def F77 : AFunc := ⟨codeOf Try.f77, (.seq none .leaf (.seq none (.reg [1000007] []) (.seq none (.reg [] [(2, ⟨[.one (.win 5 0)], [[.arrp 5]], []⟩)]) (.seq none (.reg [] [(3, ⟨[.one (.win 5 0)], [[.arrp 5]], []⟩)]) (.seq none (.reg [] [(4, ⟨[.one (.win 5 0)], [[.arrp 5]], []⟩)]) (.seq none .leaf (.seq none (.reg [] [(2, ⟨[.one (.int .u32)], [[.arrp 5]], []⟩)]) .leaf))))))), [33, 3, 22], [.tmp 6], [], [], true⟩

noncomputable def F63 : AFunc := ⟨codeOf Try.f63, (.seq none (.reg [8] []) (.seq none (.reg [0, 9, 1000009] []) (.seq none (.reg [0] []) (.seq none (.reg [0, 17] []) (.seq none (.reg [0] []) (.seq none (.reg [8, 27] []) .leaf)))))), [22, 33, 3, 22], [.tmp 8], [1000000], [], true⟩

noncomputable def F74 : AFunc := ⟨codeOf Try.f74, (.seq none (.reg [6] []) (.seq none .leaf (.seq none (.seq none .leaf (.cond (.seq none (.reg [6] []) .leaf) .leaf)) (.seq none .leaf (.seq none (.seq none .leaf (.cond (.seq none (.reg [6] []) .leaf) .leaf)) (.seq none .leaf (.seq none (.reg [11] []) (.seq none .leaf (.seq none (.reg [6, 69] []) .leaf))))))))), [22, 33, 3], [.tmp 6, .tmp 7], [], [], true⟩

noncomputable def F52 : AFunc := ⟨codeOf Try.f52, (.seq none (.reg [4] []) (.seq none (.reg [6] []) (.seq none .leaf (.sub (.loop [(0, false), (1, false), (6, true), (7, false)] (.sub (.seq none .leaf (.seq none (.seq none .leaf (.cond (.seq none (.reg [4, 19] []) .leaf) .leaf)) (.seq none (.reg [6, 21] []) .leaf))))))))), [22, 33], [.tmp 4, .tmp 5], [], [0], true⟩

noncomputable def F49 : AFunc := ⟨codeOf Try.f49, (.seq none .leaf (.seq none (.seq none .leaf (.sub (.loop [(5, false), (6, false), (7, false)] .leaf))) .leaf)), [22], [.tmp 2], [], [], true⟩

noncomputable def F12 : AFunc := ⟨codeOf Try.f12, (.seq none .leaf (.seq none .leaf (.seq none (.reg [13, 1000009, 1000011, 9000000] []) .leaf))), [3], [.tmp 2], [], [], true⟩

noncomputable def F32 : AFunc := ⟨codeOf Try.f32, .leaf, [25], [.tmp 2], [], [], true⟩

noncomputable def F38 : AFunc := ⟨codeOf Try.f38, .leaf, [25], [.tmp 2], [], [], true⟩

noncomputable def F44 : AFunc := ⟨codeOf Try.f44, .leaf, [25, 3, 3], [.tmp 6], [], [], true⟩

noncomputable def F35 : AFunc := ⟨codeOf Try.f35, (.seq none (.reg [6] []) (.seq none (.seq none .leaf (.seq none .leaf (.cond (.seq none (.reg [6] []) .leaf) .leaf))) (.seq none (.reg [6] []) .leaf))), [25, 3, 3], [.tmp 6, .tmp 7], [], [], true⟩

noncomputable def F36 : AFunc := ⟨codeOf Try.f36, (.seq none .leaf (.seq none .leaf (.seq none (.sub (.loop [(0, false), (1, false), (2, false)] (.seq none .leaf (.sub (.seq none .leaf (.seq none .leaf (.seq none .leaf (.seq none .leaf (.seq none (.reg [69, 77] []) .leaf))))))))) .leaf))), [25, 3, 22], [.tmp 6], [], [], true⟩

noncomputable def F20 : AFunc := ⟨codeOf Try.f20, (.seq none .leaf (.seq none .leaf (.seq none (.seq none .leaf (.sub (.loop [(0, false), (14, false), (15, false), (16, false)] (.seq none .leaf (.seq none .leaf (.seq none (.sub (.seq none (.reg [19] []) .leaf)) .leaf)))))) .leaf))), [25], [.tmp 2], [], [], true⟩

noncomputable def F39 : AFunc := ⟨codeOf Try.f39, .leaf, [25, 3], [], [], [], true⟩

noncomputable def F40 : AFunc := ⟨codeOf Try.f40, (.seq none .leaf (.seq none .leaf (.seq none .leaf (.seq none (.seq none .leaf (.sub (.loop [(0, false), (3, false), (4, false), (24, false), (25, false), (26, false)] (.seq none .leaf (.seq none .leaf (.seq none (.sub (.seq none (.reg [29] []) .leaf)) .leaf)))))) (.seq none (.seq none .leaf (.cond (.seq none (.reg [54] []) .leaf) .leaf)) .leaf))))), [25, 74], [], [], [], true⟩

noncomputable def F24 : AFunc := ⟨codeOf Try.f24, .leaf, [25], [.tmp 2], [], [], true⟩

noncomputable def F70 : AFunc := ⟨codeOf Try.f70, .leaf, [25], [.tmp 2], [], [], true⟩

noncomputable def F45 : AFunc := ⟨codeOf Try.f45, .leaf, [42, 3], [.tmp 4], [], [], true⟩

noncomputable def F47 : AFunc := ⟨codeOf Try.f47, .leaf, [42, 3], [.tmp 4], [], [], true⟩

noncomputable def F48 : AFunc := ⟨codeOf Try.f48, .leaf, [42], [.tmp 2], [], [], true⟩

noncomputable def F50 : AFunc := ⟨codeOf Try.f50, .leaf, [42, 3, 22], [.tmp 6], [], [], true⟩

noncomputable def F22 : AFunc := ⟨codeOf Try.f22, (.seq none .leaf (.seq none .leaf (.seq none (.reg [25] []) (.seq none .leaf (.seq none .leaf (.seq none (.seq none .leaf (.sub (.sub (.seq none .leaf (.seq none .leaf (.seq none (.sub (.seq none .leaf (.seq none .leaf (.seq none .leaf (.seq none .leaf (.seq none (.reg [44, 53] []) .leaf)))))) .leaf)))))) (.seq none .leaf (.seq none .leaf (.seq none .leaf (.seq none .leaf (.seq none (.reg [110, 119] []) (.seq none (.seq none .leaf (.cond (.seq none (.reg [5000139] []) .leaf) .leaf)) .leaf)))))))))))), [25], [.tmp 2, .tmp 3], [], [], true⟩

noncomputable def F59 : AFunc := ⟨codeOf Try.f59, (.seq none (.reg [2] []) (.seq none (.reg [3] []) (.seq none (.seq none .leaf (.sub (.loop [(3, true), (6, false), (7, false), (8, false)] (.seq none .leaf (.seq none .leaf (.seq none (.sub (.seq none .leaf (.reg [3, 12] []))) .leaf)))))) (.seq none (.reg [2, 18] []) .leaf)))), [23], [.tmp 2], [], [0], true⟩

noncomputable def F28 : AFunc := ⟨codeOf Try.f28, (.seq none (.reg [2] []) (.seq none (.seq none .leaf (.cond (.seq none (.reg [2] []) .leaf) .leaf)) (.seq none (.reg [2] []) .leaf))), [42], [.tmp 2], [], [0], true⟩

noncomputable def F29 : AFunc := ⟨codeOf Try.f29, .leaf, [42], [.tmp 2], [], [], true⟩

noncomputable def F30 : AFunc := ⟨codeOf Try.f30, (.seq none .leaf (.seq none .leaf (.seq none (.reg [5000006] []) .leaf))), [42], [.tmp 2], [], [], true⟩

noncomputable def F61 : AFunc := ⟨codeOf Try.f61, .leaf, [42], [.tmp 2], [], [], true⟩

noncomputable def F62 : AFunc := ⟨codeOf Try.f62, .leaf, [22], [.tmp 2], [], [], true⟩

noncomputable def F33 : AFunc := ⟨codeOf Try.f33, (.seq none .leaf (.seq none .leaf (.seq none .leaf (.seq none .leaf (.seq none .leaf (.seq none (.seq none (.reg [2000047, 5000041] []) .leaf) (.seq none (.reg [56, 60] []) .leaf))))))), [42, 22], [.tmp 4], [], [], true⟩

noncomputable def F34 : AFunc := ⟨codeOf Try.f34, (.seq none .leaf (.seq none .leaf (.seq none .leaf (.seq none (.seq none .leaf (.sub (.loop [(0, false), (1, false), (6, false), (22, false), (23, false), (24, false)] .leaf))) (.seq none .leaf (.seq none .leaf (.seq none (.reg [12, 1000012] []) (.seq none (.seq none .leaf (.sub (.loop [(0, false), (1, false), (6, false), (10, false), (11, false), (12, true), (60, false), (61, false), (62, false)] (.seq none .leaf (.seq none .leaf (.seq none (.sub (.seq none .leaf (.reg [12] [(5, ⟨[.one (.msl 5 1)], [[.deadp], [.arrp 5]], []⟩)]))) .leaf)))))) (.seq none (.reg [12, 73] []) (.seq none (.seq none (.reg [2000083] []) .leaf) (.seq none .leaf (.seq none (.reg [105] []) .leaf)))))))))))), [42, 23], [.tmp 4], [], [], true⟩

noncomputable def F15 : AFunc := ⟨codeOf Try.f15, (.seq none (.reg [4] []) (.seq none (.reg [4] []) .leaf)), [22, 3], [.tmp 4], [], [0], true⟩

noncomputable def F27 : AFunc := ⟨codeOf Try.f27, (.seq none .leaf (.seq none .leaf (.seq none (.seq none .leaf (.sub (.loop [(0, false), (1, false), (5, false)] .leaf))) .leaf))), [23, 23], [.tmp 4], [], [], true⟩

noncomputable def F18 : AFunc := ⟨codeOf Try.f18, (.seq none (.reg [4] []) (.seq none (.reg [5] []) (.seq none (.seq none .leaf (.sub (.loop [(0, false), (1, false), (5, true), (6, false)] (.seq none .leaf (.seq none (.sub (.reg [5, 18] [])) .leaf))))) (.seq none (.reg [4, 30] []) .leaf)))), [23, 3], [.tmp 4], [], [0], true⟩

noncomputable def F26 : AFunc := ⟨codeOf Try.f26, (.seq none .leaf (.seq none .leaf (.seq none .leaf (.seq none (.seq none (.reg [8000008] []) .leaf) .leaf)))), [], [.tmp 0], [], [], true⟩

noncomputable def F42 : AFunc := ⟨codeOf Try.f42, (.seq none (.reg [4] []) (.seq none (.reg [5, 1000008] []) (.seq none (.seq none .leaf (.sub (.loop [(0, false), (5, true), (6, false)] .leaf))) (.seq none (.reg [4, 23] []) .leaf)))), [33, 3], [.tmp 4], [], [], true⟩

noncomputable def F75 : AFunc := ⟨codeOf Try.f75, (.seq none .leaf (.seq none .leaf (.seq none (.seq none .leaf (.sub (.loop [(0, false), (3, false), (4, false)] .leaf))) .leaf))), [22], [.tmp 2], [], [], true⟩

noncomputable def F43 : AFunc := ⟨codeOf Try.f43, (.seq none .leaf (.seq none .leaf (.seq none (.seq none .leaf (.sub (.loop [(0, false), (3, false), (4, false)] (.seq none .leaf (.seq none (.sub (.seq none .leaf (.seq none .leaf (.sub (.loop [(0, false), (3, false), (4, false), (5, false)] .leaf))))) .leaf))))) .leaf))), [22], [.tmp 2], [], [], true⟩

noncomputable def F17 : AFunc := ⟨codeOf Try.f17, (.seq none (.reg [2] []) (.seq none (.reg [3, 7000000] []) (.seq none (.reg [3, 9] [(2, ⟨[.one (.int .u32)], [[.arrp 5]], []⟩)]) (.seq none (.reg [2, 15, 2000002] []) .leaf)))), [33], [.tmp 2], [], [], true⟩

noncomputable def F19 : AFunc := ⟨codeOf Try.f19, (.seq none (.reg [6] []) (.seq none .leaf (.seq none .leaf (.seq none (.reg [9] []) (.seq none (.reg [9, 27] []) (.seq none (.reg [9, 30] [(2, ⟨[.one (.int .u32)], [[.arrp 5]], []⟩)]) (.seq none (.reg [6, 36] []) .leaf))))))), [33, 3, 22], [.tmp 6], [], [], true⟩

noncomputable def F76 : AFunc := ⟨codeOf Try.f76, .leaf, [22, 22], [.tmp 4], [], [], true⟩

noncomputable def F57 : AFunc := ⟨codeOf Try.f57, (.seq none (.reg [4] []) (.seq none (.reg [6] []) (.seq none .leaf (.seq none (.sub (.loop [(0, false), (1, false), (6, true), (7, false)] (.seq none .leaf (.sub (.seq none .leaf (.seq none .leaf (.seq none .leaf (.seq none .leaf (.seq none .leaf (.seq none (.reg [6, 71] []) .leaf)))))))))) (.seq none (.reg [4, 79] []) .leaf))))), [33, 22], [.tmp 4, .tmp 5], [], [0], true⟩

noncomputable def F54 : AFunc := ⟨codeOf Try.f54, (.seq none .leaf (.seq none (.seq none .leaf (.sub (.loop [(0, false), (3, false)] .leaf))) .leaf)), [22], [.tmp 2], [], [], true⟩

noncomputable def F13 : AFunc := ⟨codeOf Try.f13, (.seq none .leaf (.seq none (.reg [8] []) .leaf)), [3], [.cell 2 29], [], [0], true⟩

noncomputable def F14 : AFunc := ⟨codeOf Try.f14, .leaf, [36], [.tmp 2], [], [], true⟩

noncomputable def F69 : AFunc := ⟨codeOf Try.f69, .leaf, [36, 3, 3], [.tmp 6], [], [], true⟩

noncomputable def F25 : AFunc := ⟨codeOf Try.f25, (.seq none (.reg [2] []) (.seq none (.reg [3, 1000005] []) (.seq none (.seq none .leaf (.sub (.loop [(0, false), (3, true), (4, false)] .leaf))) (.seq none (.reg [2, 39, 2000002] []) .leaf)))), [36], [.tmp 2], [], [], true⟩

noncomputable def F41 : AFunc := ⟨codeOf Try.f41, (.seq none .leaf (.seq none .leaf (.seq none .leaf (.seq none (.sub (.loop [(0, false), (1, false), (2, false)] (.seq none .leaf (.sub (.seq none .leaf (.seq none .leaf (.seq none .leaf (.seq none (.reg [56, 65] []) .leaf)))))))) .leaf)))), [36, 3, 22], [.tmp 6], [], [], true⟩

noncomputable def F21 : AFunc := ⟨codeOf Try.f21, (.seq none .leaf (.seq none .leaf (.seq none (.reg [9] []) .leaf))), [36], [.tmp 2], [], [], true⟩

noncomputable def F58 : AFunc := ⟨codeOf Try.f58, .leaf, [36], [.tmp 2], [], [], true⟩

noncomputable def F53 : AFunc := ⟨codeOf Try.f53, .leaf, [36, 3], [.tmp 4], [], [], true⟩

noncomputable def F55 : AFunc := ⟨codeOf Try.f55, (.seq none (.reg [4] []) (.seq none (.reg [4, 17] []) .leaf)), [36, 3], [.tmp 4], [], [], true⟩

noncomputable def F56 : AFunc := ⟨codeOf Try.f56, .leaf, [36, 3, 22], [.tmp 6], [], [], true⟩

noncomputable def F23 : AFunc := ⟨codeOf Try.f23, (.seq none .leaf (.seq none .leaf (.seq none .leaf (.seq none .leaf (.seq none (.reg [21] []) (.seq none .leaf (.seq none .leaf (.seq none .leaf (.seq none (.reg [73, 82] []) .leaf))))))))), [36], [.tmp 2, .tmp 3], [], [], true⟩

noncomputable def F60 : AFunc := ⟨codeOf Try.f60, .leaf, [45], [.tmp 2], [], [], true⟩

noncomputable def F31 : AFunc := ⟨codeOf Try.f31, (.seq none .leaf (.seq none (.reg [5000004] []) .leaf)), [45], [.tmp 2], [], [], true⟩

noncomputable def F16 : AFunc := ⟨codeOf Try.f16, .leaf, [25, 36, 3, 22], [], [], [], true⟩

noncomputable def F3 : AFunc := ⟨codeOf Try.f3, (.seq none .leaf (.seq none .leaf (.seq none (.reg [35] []) (.seq none .leaf (.seq none .leaf (.seq none .leaf (.seq none (.seq none .leaf (.sub (.loop [(2, false), (3, false), (4, false), (5, false), (6, false), (16, false), (17, false), (18, false), (19, false), (20, false)] (.seq none .leaf (.seq none (.sub (.seq none .leaf (.seq none .leaf (.seq none .leaf (.seq none .leaf (.seq none (.seq none .leaf (.sub (.loop [(2, false), (3, false), (4, false), (5, false), (6, false), (16, false), (17, false), (18, false), (19, false), (20, false), (21, false), (22, false), (23, false), (24, false)] .leaf))) .leaf)))))) .leaf))))) (.seq (some [(16, false), (17, false)]) .leaf (.seq none .leaf (.seq none .leaf (.seq none (.reg [] [(1, ⟨[.one (.ptr 3 0), .one (.int .i64)], [[.msl 5 1, .msl 5 2, .sl true 85, .bool, .int .i64, .bool], [.arrp 5], [.arrp 5], [.ptr 0 0, .int .i64, .int .u64, .sl true 22, .int .i64, .bool]], [([.one (.nilp), .one (.int .i64)], [[.msl 5 1, .msl 5 2, .sl true 85, .bool, .int .i64, .bool], [.arrp 5], [.arrp 5]])]⟩)]) (.seq none (.reg [] [(0, ⟨[.one (.ptr 1 0), .one (.int .i64)], [[.sl false 5, .sl true 99, .bool, .bool, .int .i64], [.ptr 0 0, .int .i64, .int .u64, .sl true 22, .int .i64, .bool]], [([.one (.nilp), .one (.int .i64)], [[.sl false 5, .sl true 99, .bool, .bool, .int .i64]])]⟩)]) .leaf)))))))))))), [3, 22, 22, 3, 3, 23, 3], [.tmp 14], [], [], true⟩

noncomputable def fnTab : List (Nat × (Sig × FnDef)) := [
  (3, (⟨[.one (.bool)], [], []⟩, .code F3)),
  (16, (⟨[], [[.msl 5 1, .msl 5 2, .sl true 85, .bool, .int .i64, .bool], [.arrp 5], [.arrp 5], [.sl false 5, .sl true 99, .bool, .bool, .int .i64]], []⟩, .code F16)),
  (31, (⟨[.one (.int .i64)], [[.ptr 1 0, .int .i64, .int .u64, .sl true 22, .int .i64, .bool], [.sl false 5, .sl true 99, .bool, .bool, .int .i64]], []⟩, .code F31)),
  (60, (⟨[.one (.int .i64)], [[.ptr 1 0, .int .i64, .int .u64, .sl true 22, .int .i64, .bool], [.sl false 5, .sl true 99, .bool, .bool, .int .i64]], []⟩, .code F60)),
  (23, (⟨[.one (.ptr 1 0), .one (.int .i64)], [[.sl false 5, .sl true 99, .bool, .bool, .int .i64], [.ptr 0 0, .int .i64, .int .u64, .sl true 22, .int .i64, .bool]], []⟩, .code F23)),
  (56, (⟨[.one (.int .i64)], [[.sl false 5, .sl true 99, .bool, .bool, .int .i64]], []⟩, .code F56)),
  (55, (⟨[.one (.sl false 5)], [[.sl false 5, .sl true 99, .bool, .bool, .int .i64]], []⟩, .code F55)),
  (53, (⟨[.one (.int .u64)], [[.sl false 5, .sl true 99, .bool, .bool, .int .i64]], []⟩, .code F53)),
  (58, (⟨[.one (.int .i64)], [[.sl false 5, .sl true 99, .bool, .bool, .int .i64]], []⟩, .code F58)),
  (21, (⟨[.one (.int .i64)], [[.sl false 5, .sl true 99, .bool, .bool, .int .i64]], []⟩, .code F21)),
  (41, (⟨[.one (.int .i64)], [[.sl false 5, .sl true 99, .bool, .bool, .int .i64]], []⟩, .code F41)),
  (25, (⟨[.one (.sl false 5)], [[.sl false 5, .sl true 99, .bool, .bool, .int .i64]], []⟩, .code F25)),
  (69, (⟨[.one (.bool)], [[.sl false 5, .sl true 99, .bool, .bool, .int .i64]], []⟩, .code F69)),
  (14, (⟨[.one (.int .i64)], [[.sl false 5, .sl true 99, .bool, .bool, .int .i64]], []⟩, .code F14)),
  (13, (⟨[.agg [.sl false 5, .sl true 99, .bool, .bool, .int .i64]], [], []⟩, .code F13)),
  (54, (⟨[.one (.bool)], [], []⟩, .code F54)),
  (57, (⟨[.one (.sl true 22), .one (.int .i64)], [], []⟩, .code F57)),
  (76, (⟨[.one (.bool)], [], []⟩, .code F76)),
  (19, (⟨[.one (.sl false 5)], [], []⟩, .code F19)),
  (17, (⟨[.one (.sl false 5)], [], []⟩, .code F17)),
  (43, (⟨[.one (.int .u32)], [], []⟩, .code F43)),
  (75, (⟨[.one (.int .u64)], [], []⟩, .code F75)),
  (42, (⟨[.one (.msl 5 0)], [[.arrp 5]], []⟩, .code F42)),
  (26, (⟨[.one (.bool)], [], []⟩, .code F26)),
  (18, (⟨[.one (.sl true 22)], [], []⟩, .code F18)),
  (27, (⟨[.one (.bool)], [], []⟩, .code F27)),
  (15, (⟨[.one (.sl true 5)], [], []⟩, .code F15)),
  (34, (⟨[.one (.int .i64)], [[.ptr 1 0, .int .i64, .int .u64, .sl true 22, .int .i64, .bool], [.msl 5 2, .msl 5 3, .sl true 85, .bool, .int .i64, .bool], [.arrp 5], [.arrp 5]], []⟩, .code F34)),
  (33, (⟨[.one (.int .i64)], [[.ptr 1 0, .int .i64, .int .u64, .sl true 22, .int .i64, .bool], [.msl 5 2, .msl 5 3, .sl true 85, .bool, .int .i64, .bool], [.arrp 5], [.arrp 5]], []⟩, .code F33)),
  (62, (⟨[.one (.int .i64)], [], []⟩, .code F62)),
  (61, (⟨[.one (.int .i64)], [[.ptr 1 0, .int .i64, .int .u64, .sl true 22, .int .i64, .bool], [.msl 5 2, .msl 5 3, .sl true 85, .bool, .int .i64, .bool], [.arrp 5], [.arrp 5]], []⟩, .code F61)),
  (30, (⟨[.one (.int .i64)], [[.ptr 1 0, .int .i64, .int .u64, .sl true 22, .int .i64, .bool], [.msl 5 2, .msl 5 3, .sl true 85, .bool, .int .i64, .bool], [.arrp 5], [.arrp 5]], []⟩, .code F30)),
  (29, (⟨[.one (.int .u64)], [[.ptr 1 0, .int .i64, .int .u64, .sl true 22, .int .i64, .bool], [.msl 5 2, .msl 5 3, .sl true 85, .bool, .int .i64, .bool], [.arrp 5], [.arrp 5]], []⟩, .code F29)),
  (28, (⟨[.one (.sl true 22)], [[.ptr 1 0, .int .i64, .int .u64, .sl true 22, .int .i64, .bool], [.msl 5 2, .msl 5 3, .sl true 85, .bool, .int .i64, .bool], [.arrp 5], [.arrp 5]], []⟩, .code F28)),
  (59, (⟨[.one (.sl true 22)], [], []⟩, .code F59)),
  (22, (⟨[.one (.ptr 3 0), .one (.int .i64)], [[.msl 5 1, .msl 5 2, .sl true 85, .bool, .int .i64, .bool], [.arrp 5], [.arrp 5], [.ptr 0 0, .int .i64, .int .u64, .sl true 22, .int .i64, .bool]], []⟩, .code F22)),
  (50, (⟨[.one (.int .i64)], [[.ptr 1 0, .int .i64, .int .u64, .sl true 22, .int .i64, .bool], [.msl 5 2, .msl 5 3, .sl true 85, .bool, .int .i64, .bool], [.arrp 5], [.arrp 5]], []⟩, .code F50)),
  (48, (⟨[.one (.int .i64)], [[.ptr 1 0, .int .i64, .int .u64, .sl true 22, .int .i64, .bool], [.msl 5 2, .msl 5 3, .sl true 85, .bool, .int .i64, .bool], [.arrp 5], [.arrp 5]], []⟩, .code F48)),
  (47, (⟨[.one (.int .i64)], [[.ptr 1 0, .int .i64, .int .u64, .sl true 22, .int .i64, .bool], [.msl 5 2, .msl 5 3, .sl true 85, .bool, .int .i64, .bool], [.arrp 5], [.arrp 5]], []⟩, .code F47)),
  (45, (⟨[.one (.int .i64)], [[.ptr 1 0, .int .i64, .int .u64, .sl true 22, .int .i64, .bool], [.msl 5 2, .msl 5 3, .sl true 85, .bool, .int .i64, .bool], [.arrp 5], [.arrp 5]], []⟩, .code F45)),
  (70, (⟨[.one (.int .i64)], [[.msl 5 1, .msl 5 2, .sl true 85, .bool, .int .i64, .bool], [.arrp 5], [.arrp 5]], []⟩, .code F70)),
  (24, (⟨[.one (.str)], [[.msl 5 1, .msl 5 2, .sl true 85, .bool, .int .i64, .bool], [.arrp 5], [.arrp 5]], []⟩, .code F24)),
  (40, (⟨[], [[.msl 5 1, .msl 5 2, .sl true 85, .bool, .int .i64, .bool], [.arrp 5], [.arrp 5]], []⟩, .code F40)),
  (39, (⟨[], [[.msl 5 1, .msl 5 2, .sl true 85, .bool, .int .i64, .bool], [.arrp 5], [.arrp 5]], []⟩, .code F39)),
  (20, (⟨[.one (.int .i64)], [[.msl 5 1, .msl 5 2, .sl true 85, .bool, .int .i64, .bool], [.arrp 5], [.arrp 5]], []⟩, .code F20)),
  (36, (⟨[.one (.int .i64)], [[.msl 5 1, .msl 5 2, .sl true 85, .bool, .int .i64, .bool], [.arrp 5], [.arrp 5]], []⟩, .code F36)),
  (35, (⟨[.one (.sl false 5), .one (.int .i64)], [[.msl 5 1, .msl 5 2, .sl true 85, .bool, .int .i64, .bool], [.arrp 5], [.arrp 5]], []⟩, .code F35)),
  (44, (⟨[.one (.int .i64)], [[.msl 5 1, .msl 5 2, .sl true 85, .bool, .int .i64, .bool], [.arrp 5], [.arrp 5]], []⟩, .code F44)),
  (38, (⟨[.one (.bool)], [[.msl 5 1, .msl 5 2, .sl true 85, .bool, .int .i64, .bool], [.arrp 5], [.arrp 5]], []⟩, .code F38)),
  (32, (⟨[.one (.int .i64)], [[.msl 5 1, .msl 5 2, .sl true 85, .bool, .int .i64, .bool], [.arrp 5], [.arrp 5]], []⟩, .code F32)),
  (12, (⟨[.one (.ptr 0 0)], [[.msl 5 1, .msl 5 2, .sl true 85, .bool, .int .i64, .bool], [.arrp 5], [.arrp 5]], []⟩, .code F12)),
  (49, (⟨[.one (.bool)], [], []⟩, .code F49)),
  (52, (⟨[.one (.sl true 22), .one (.int .i64)], [], []⟩, .code F52)),
  (74, (⟨[.one (.sl false 5), .one (.bool)], [], []⟩, .code F74)),
  (63, (⟨[.one (.msl 5 0)], [[.arrp 5]], []⟩, .code F63)),
  (77, (⟨[.one (.int .u32)], [], []⟩, .code F77)),
  (46, (⟨[.one (.int .u64)], [], []⟩, .code F46)),
  (51, (⟨[.one (.sl false 5)], [], []⟩, .code F51)),
  (71, (⟨[.one (.int .u64)], [], []⟩, .code F71)),
  (73, (⟨[.one (.int .u32)], [], []⟩, .code F73)),
  (72, (⟨[.one (.msl 5 1)], [[.deadp], [.arrp 5]], []⟩, .code F72)),
  (11, (⟨[.one (.int .i64)], [], []⟩, .code F11))]

noncomputable def E : Env := ⟨lookT tyTab, lookT fnTab⟩

noncomputable def s11 : Go.Abs.Spec := fun args blk => match args, blk with
  | [.one (.int .i64 n), .one (.int .i64 k)], [] => ((pd (k < (4611686018427387904 : Int))), ([.one (.int .i64 (gIndex n k))], []))
  | _, _ => (false, ([], []))

noncomputable def s72 : Go.Abs.Spec := fun args blk => match args, blk with
  | [.one (.msl 5 0 un), .one (.int .u64 v), .one (.int .i64 k)], [.arr 5 x] => ((okV v && (okSz k && okMx un x)), ([.one (.msl 5 1 (x.length + Int.toNat k))], [.dead, .arr 5 (x ++ bigF (Int.toNat k) v)]))
  | [.one (.win 5 0 lo un (some c)), .one (.int .u64 v), .one (.int .i64 k)], [.arr 5 x] => ((okV v && (okSz k && okWa lo un c x (Int.toNat k))), ([.one (.win 5 0 lo (un + Int.toNat k) (some c))], [.arr 5 (overL x (lo + un) (bigF (Int.toNat k) v))]))
  | _, _ => (false, ([], []))

noncomputable def s73 : Go.Abs.Spec := fun args blk => match args, blk with
  | [.one (.sl false 5 x)], [] => ((okBl x), ([.one (.int .u32 (crcS x))], []))
  | [.one (.msl 5 0 un)], [.arr 5 x] => ((okBl x && Nat.beq un x.length), ([.one (.int .u32 (crcS x))], [.arr 5 x]))
  | [.one (.win 5 0 lo un (some c))], [.arr 5 x] => ((okWb lo un x), ([.one (.int .u32 (crcS (subL x lo (lo + un))))], [.arr 5 x]))
  | _, _ => (false, ([], []))

noncomputable def s71 : Go.Abs.Spec := fun args blk => match args, blk with
  | [.one (.sl false 5 x)], [] => ((okB x && pd (x.length ≤ 8)), ([.one (.int .u64 (numF 0 x))], []))
  | _, _ => (false, ([], []))

noncomputable def s51 : Go.Abs.Spec := fun args blk => match args, blk with
  | [.one (.int .u64 g)], [] => ((okV g), ([.one (.sl false 5 (wHdr g))], []))
  | _, _ => (false, ([], []))

noncomputable def s46 : Go.Abs.Spec := fun args blk => match args, blk with
  | [.one (.sl false 5 x)], [] => ((okB x && pd (x.length = 32)), ([.one (.int .u64 (wGen x))], []))
  | _, _ => (false, ([], []))

noncomputable def s77 : Go.Abs.Spec := fun args blk => match args, blk with
  | [.one (.int .u64 g), .one (.int .i64 o), .one (.sl false 5 x)], [] => ((okV g && okRx o x), ([.one (.int .u32 (wSum g o x))], []))
  | _, _ => (false, ([], []))

noncomputable def s63 : Go.Abs.Spec := fun args blk => match args, blk with
  | [.one (.nils), .one (.int .u64 g), .one (.int .i64 o), .one (.sl false 5 y)], [] => ((okV g && okRx o y), ([.one (.msl 5 0 (wEnc g o y).length)], [.arr 5 (wEnc g o y)]))
  | [.one (.msl 5 0 un), .one (.int .u64 g), .one (.int .i64 o), .one (.sl false 5 y)], [.arr 5 x] => ((okV g && (okRx o y && (okMx un x && pd (x.length ≤ 900000)))), ([.one (.msl 5 1 (x ++ wEnc g o y).length)], [.dead, .arr 5 (x ++ wEnc g o y)]))
  | _, _ => (false, ([], []))

noncomputable def s74 : Go.Abs.Spec := fun args blk => match args, blk with
  | [.one (.sl false 5 x), .one (.int .u64 g), .one (.int .i64 o)], [] => ((okV g && (okBl x && (pd ((0 : Int) ≤ o) && pd (o ≤ (x.length : Int))))), ([.one (.sl false 5 (recB g o (x.drop (Int.toNat o))).1), .one (.bool (recB g o (x.drop (Int.toNat o))).2)], []))
  | _, _ => (false, ([], []))

noncomputable def s52 : Go.Abs.Spec := fun args blk => match args, blk with
  | [.one (.sl false 5 x), .one (.int .u64 g)], [] => ((okV g && okBl x), ([.one (.sl true 22 (wScan g x).1), .one (.int .i64 (wScan g x).2)], []))
  | _, _ => (false, ([], []))

noncomputable def s49 : Go.Abs.Spec := fun args blk => match args, blk with
  | [.one (.sl false 5 x)], [] => ((okBl x), ([.one (.bool (zeroB x))], []))
  | _, _ => (false, ([], []))

noncomputable def s12 : Go.Abs.Spec := fun args blk => match args, blk with
  | [.one (.int .i64 n)], [] => (true, ([.one (.ptr 0 0)], [.var [.msl 5 1 (secN n), .msl 5 2 (secN n), .sl true 85 (Dk.q (newDk n)), .bool (Dk.arm (newDk n)), .int .i64 (Dk.left (newDk n)), .bool (Dk.down (newDk n))], .arr 5 (Dk.dur (newDk n)), .arr 5 (Dk.cur (newDk n))]))
  | _, _ => (false, ([], []))

noncomputable def s32 : Go.Abs.Spec := fun args blk => match args, blk with
  | [.one (.ptr 0 0)], [.var [.msl 5 1 un, .msl 5 2 cn, .sl true 85 qu, .bool am, .int .i64 lf, .bool dn], .arr 5 du, .arr 5 cu] => ((okDk un cn (Dk.mk du cu qu am lf dn)), ([.one (.int .i64 (secs du))], [.var [.msl 5 1 un, .msl 5 2 cn, .sl true 85 qu, .bool am, .int .i64 lf, .bool dn], .arr 5 du, .arr 5 cu]))
  | [.one (.nilp)], [] => (true, ([.one (.int .i64 0)], []))
  | _, _ => (false, ([], []))

noncomputable def s38 : Go.Abs.Spec := fun args blk => match args, blk with
  | [.one (.ptr 0 0)], [.var [.msl 5 1 un, .msl 5 2 cn, .sl true 85 qu, .bool am, .int .i64 lf, .bool dn], .arr 5 du, .arr 5 cu] => (true, ([.one (.bool dn)], [.var [.msl 5 1 un, .msl 5 2 cn, .sl true 85 qu, .bool am, .int .i64 lf, .bool dn], .arr 5 du, .arr 5 cu]))
  | _, _ => (false, ([], []))

noncomputable def s44 : Go.Abs.Spec := fun args blk => match args, blk with
  | [.one (.ptr 0 0), .one (.int .i64 o), .one (.int .i64 k)], [.var [.msl 5 1 un, .msl 5 2 cn, .sl true 85 qu, .bool am, .int .i64 lf, .bool dn], .arr 5 du, .arr 5 cu] => ((okDk un cn (Dk.mk du cu qu am lf dn)), ([.one (.int .i64 (Dk.chk (Dk.mk du cu qu am lf dn) o k))], [.var [.msl 5 1 un, .msl 5 2 cn, .sl true 85 qu, .bool am, .int .i64 lf, .bool dn], .arr 5 du, .arr 5 cu]))
  | _, _ => (false, ([], []))

noncomputable def s35 : Go.Abs.Spec := fun args blk => match args, blk with
  | [.one (.ptr 0 0), .one (.int .i64 o), .one (.int .i64 k)], [.var [.msl 5 1 un, .msl 5 2 cn, .sl true 85 qu, .bool am, .int .i64 lf, .bool dn], .arr 5 du, .arr 5 cu] => ((okDk un cn (Dk.mk du cu qu am lf dn)), ([.one (.sl false 5 (Dk.rd (Dk.mk du cu qu am lf dn) o k)), .one (.int .i64 (Dk.chk (Dk.mk du cu qu am lf dn) o k))], [.var [.msl 5 1 un, .msl 5 2 cn, .sl true 85 qu, .bool am, .int .i64 lf, .bool dn], .arr 5 du, .arr 5 cu]))
  | _, _ => (false, ([], []))

noncomputable def s36 : Go.Abs.Spec := fun args blk => match args, blk with
  | [.one (.ptr 0 0), .one (.int .i64 o), .one (.sl false 5 x)], [.var [.msl 5 1 un, .msl 5 2 cn, .sl true 85 qu, .bool am, .int .i64 lf, .bool dn], .arr 5 du, .arr 5 cu] => ((okDk un cn (Dk.mk du cu qu am lf dn) && okWx (Dk.mk du cu qu am lf dn) x), ([.one (.int .i64 (Dr.e (Dk.write (Dk.mk du cu qu am lf dn) o x)))], [.var [.msl 5 1 un, .msl 5 2 cn, .sl true 85 (Dk.q (Dr.d (Dk.write (Dk.mk du cu qu am lf dn) o x))), .bool (Dk.arm (Dr.d (Dk.write (Dk.mk du cu qu am lf dn) o x))), .int .i64 (Dk.left (Dr.d (Dk.write (Dk.mk du cu qu am lf dn) o x))), .bool (Dk.down (Dr.d (Dk.write (Dk.mk du cu qu am lf dn) o x)))], .arr 5 (Dk.dur (Dr.d (Dk.write (Dk.mk du cu qu am lf dn) o x))), .arr 5 (Dk.cur (Dr.d (Dk.write (Dk.mk du cu qu am lf dn) o x)))]))
  | _, _ => (false, ([], []))

noncomputable def s20 : Go.Abs.Spec := fun args blk => match args, blk with
  | [.one (.ptr 0 0)], [.var [.msl 5 1 un, .msl 5 2 cn, .sl true 85 qu, .bool am, .int .i64 lf, .bool dn], .arr 5 du, .arr 5 cu] => ((okDk un cn (Dk.mk du cu qu am lf dn)), ([.one (.int .i64 (Dr.e (Dk.sync (Dk.mk du cu qu am lf dn))))], [.var [.msl 5 1 un, .msl 5 2 cn, .sl true 85 (Dk.q (Dr.d (Dk.sync (Dk.mk du cu qu am lf dn)))), .bool (Dk.arm (Dr.d (Dk.sync (Dk.mk du cu qu am lf dn)))), .int .i64 (Dk.left (Dr.d (Dk.sync (Dk.mk du cu qu am lf dn)))), .bool (Dk.down (Dr.d (Dk.sync (Dk.mk du cu qu am lf dn))))], .arr 5 (Dk.dur (Dr.d (Dk.sync (Dk.mk du cu qu am lf dn)))), .arr 5 (Dk.cur (Dr.d (Dk.sync (Dk.mk du cu qu am lf dn))))]))
  | _, _ => (false, ([], []))

noncomputable def s39 : Go.Abs.Spec := fun args blk => match args, blk with
  | [.one (.ptr 0 0), .one (.int .i64 k)], [.var [.msl 5 1 un, .msl 5 2 cn, .sl true 85 qu, .bool am, .int .i64 lf, .bool dn], .arr 5 du, .arr 5 cu] => (true, ([], [.var [.msl 5 1 un, .msl 5 2 cn, .sl true 85 (Dk.q (Dk.fail (Dk.mk du cu qu am lf dn) k)), .bool (Dk.arm (Dk.fail (Dk.mk du cu qu am lf dn) k)), .int .i64 (Dk.left (Dk.fail (Dk.mk du cu qu am lf dn) k)), .bool (Dk.down (Dk.fail (Dk.mk du cu qu am lf dn) k))], .arr 5 (Dk.dur (Dk.fail (Dk.mk du cu qu am lf dn) k)), .arr 5 (Dk.cur (Dk.fail (Dk.mk du cu qu am lf dn) k))]))
  | _, _ => (false, ([], []))

noncomputable def s40 : Go.Abs.Spec := fun args blk => match args, blk with
  | [.one (.ptr 0 0), .agg [.int .i64 k, .int .i64 t]], [.var [.msl 5 1 un, .msl 5 2 cn, .sl true 85 qu, .bool am, .int .i64 lf, .bool dn], .arr 5 du, .arr 5 cu] => ((okDk un cn (Dk.mk du cu qu am lf dn)), ([], [.var [.msl 5 1 un, .msl 5 2 cn, .sl true 85 (Dk.q (Dk.crash (Dk.mk du cu qu am lf dn) k t)), .bool (Dk.arm (Dk.crash (Dk.mk du cu qu am lf dn) k t)), .int .i64 (Dk.left (Dk.crash (Dk.mk du cu qu am lf dn) k t)), .bool (Dk.down (Dk.crash (Dk.mk du cu qu am lf dn) k t))], .arr 5 (Dk.dur (Dk.crash (Dk.mk du cu qu am lf dn) k t)), .arr 5 (Dk.cur (Dk.crash (Dk.mk du cu qu am lf dn) k t))]))
  | _, _ => (false, ([], []))

noncomputable def s24 : Go.Abs.Spec := fun args blk => match args, blk with
  | [.one (.ptr 0 0)], [.var [.msl 5 1 un, .msl 5 2 cn, .sl true 85 qu, .bool am, .int .i64 lf, .bool dn], .arr 5 du, .arr 5 cu] => ((okDk un cn (Dk.mk du cu qu am lf dn)), ([.one (.str (Dk.all (Dk.mk du cu qu am lf dn)))], [.var [.msl 5 1 un, .msl 5 2 cn, .sl true 85 qu, .bool am, .int .i64 lf, .bool dn], .arr 5 du, .arr 5 cu]))
  | _, _ => (false, ([], []))

noncomputable def s70 : Go.Abs.Spec := fun args blk => match args, blk with
  | [.one (.ptr 0 0)], [.var [.msl 5 1 un, .msl 5 2 cn, .sl true 85 qu, .bool am, .int .i64 lf, .bool dn], .arr 5 du, .arr 5 cu] => ((okDk un cn (Dk.mk du cu qu am lf dn)), ([.one (.int .i64 (Dk.half (Dk.mk du cu qu am lf dn)))], [.var [.msl 5 1 un, .msl 5 2 cn, .sl true 85 qu, .bool am, .int .i64 lf, .bool dn], .arr 5 du, .arr 5 cu]))
  | _, _ => (false, ([], []))

noncomputable def s45 : Go.Abs.Spec := fun args blk => match args, blk with
  | [.one (.ptr 0 0), .one (.int .i64 s)], [.var [.ptr 1 0, .int .i64 ac, .int .u64 ge, .sl true 22 rc, .int .i64 fi, .bool fa], .var [.msl 5 2 un, .msl 5 3 cn, .sl true 85 qu, .bool am, .int .i64 lf, .bool dn], .arr 5 du, .arr 5 cu] => ((okDk un cn (Dk.mk du cu qu am lf dn) && okSeg s), ([.one (.int .i64 (s * Dk.half (Dk.mk du cu qu am lf dn)))], [.var [.ptr 1 0, .int .i64 ac, .int .u64 ge, .sl true 22 rc, .int .i64 fi, .bool fa], .var [.msl 5 2 un, .msl 5 3 cn, .sl true 85 qu, .bool am, .int .i64 lf, .bool dn], .arr 5 du, .arr 5 cu]))
  | _, _ => (false, ([], []))

noncomputable def s47 : Go.Abs.Spec := fun args blk => match args, blk with
  | [.one (.ptr 0 0), .one (.int .i64 s)], [.var [.ptr 1 0, .int .i64 ac, .int .u64 ge, .sl true 22 rc, .int .i64 fi, .bool fa], .var [.msl 5 2 un, .msl 5 3 cn, .sl true 85 qu, .bool am, .int .i64 lf, .bool dn], .arr 5 du, .arr 5 cu] => ((okDk un cn (Dk.mk du cu qu am lf dn) && okSeg s), ([.one (.int .i64 (s * Dk.half (Dk.mk du cu qu am lf dn) + 32))], [.var [.ptr 1 0, .int .i64 ac, .int .u64 ge, .sl true 22 rc, .int .i64 fi, .bool fa], .var [.msl 5 2 un, .msl 5 3 cn, .sl true 85 qu, .bool am, .int .i64 lf, .bool dn], .arr 5 du, .arr 5 cu]))
  | _, _ => (false, ([], []))

noncomputable def s48 : Go.Abs.Spec := fun args blk => match args, blk with
  | [.one (.ptr 0 0)], [.var [.ptr 1 0, .int .i64 ac, .int .u64 ge, .sl true 22 rc, .int .i64 fi, .bool fa], .var [.msl 5 2 un, .msl 5 3 cn, .sl true 85 qu, .bool am, .int .i64 lf, .bool dn], .arr 5 du, .arr 5 cu] => ((okDk un cn (Dk.mk du cu qu am lf dn)), ([.one (.int .i64 (Dk.half (Dk.mk du cu qu am lf dn) - 32))], [.var [.ptr 1 0, .int .i64 ac, .int .u64 ge, .sl true 22 rc, .int .i64 fi, .bool fa], .var [.msl 5 2 un, .msl 5 3 cn, .sl true 85 qu, .bool am, .int .i64 lf, .bool dn], .arr 5 du, .arr 5 cu]))
  | _, _ => (false, ([], []))

noncomputable def s50 : Go.Abs.Spec := fun args blk => match args, blk with
  | [.one (.ptr 0 0), .one (.int .i64 o), .one (.sl false 5 x)], [.var [.ptr 1 0, .int .i64 ac, .int .u64 ge, .sl true 22 rc, .int .i64 fi, .bool fa], .var [.msl 5 2 un, .msl 5 3 cn, .sl true 85 qu, .bool am, .int .i64 lf, .bool dn], .arr 5 du, .arr 5 cu] => ((okDk un cn (Dk.mk du cu qu am lf dn) && okWx (Dk.mk du cu qu am lf dn) x), ([.one (.int .i64 (Dr.e (Dk.store (Dk.mk du cu qu am lf dn) o x)))], [.var [.ptr 1 0, .int .i64 ac, .int .u64 ge, .sl true 22 rc, .int .i64 fi, .bool ((Dr.e (Dk.store (Dk.mk du cu qu am lf dn) o x)) != 0)], .var [.msl 5 2 un, .msl 5 3 cn, .sl true 85 (Dk.q (Dr.d (Dk.store (Dk.mk du cu qu am lf dn) o x))), .bool (Dk.arm (Dr.d (Dk.store (Dk.mk du cu qu am lf dn) o x))), .int .i64 (Dk.left (Dr.d (Dk.store (Dk.mk du cu qu am lf dn) o x))), .bool (Dk.down (Dr.d (Dk.store (Dk.mk du cu qu am lf dn) o x)))], .arr 5 (Dk.dur (Dr.d (Dk.store (Dk.mk du cu qu am lf dn) o x))), .arr 5 (Dk.cur (Dr.d (Dk.store (Dk.mk du cu qu am lf dn) o x)))]))
  | _, _ => (false, ([], []))

noncomputable def s22 : Go.Abs.Spec := fun args blk => match args, blk with
  | [.one (.ptr 0 0)], [.var [.msl 5 1 un, .msl 5 2 cn, .sl true 85 qu, .bool am, .int .i64 lf, .bool dn], .arr 5 du, .arr 5 cu] => ((okDk un cn (Dk.mk du cu qu am lf dn) && (pd (qu.length ≤ 1000000) && ((Lr.e (openM (Dk.mk du cu qu am lf dn))) == 0))), ([.one (.ptr 3 0), .one (.int .i64 0)], [.var [.msl 5 1 un, .msl 5 2 cn, .sl true 85 (Dk.q (Lr.d (openM (Dk.mk du cu qu am lf dn)))), .bool (Dk.arm (Lr.d (openM (Dk.mk du cu qu am lf dn)))), .int .i64 (Dk.left (Lr.d (openM (Dk.mk du cu qu am lf dn)))), .bool (Dk.down (Lr.d (openM (Dk.mk du cu qu am lf dn))))], .arr 5 (Dk.dur (Lr.d (openM (Dk.mk du cu qu am lf dn)))), .arr 5 (Dk.cur (Lr.d (openM (Dk.mk du cu qu am lf dn)))), .var [.ptr 0 0, .int .i64 (Lg.act (Lr.l (openM (Dk.mk du cu qu am lf dn)))), .int .u64 (Lg.gen (Lr.l (openM (Dk.mk du cu qu am lf dn)))), .sl true 22 (Lg.recs (Lr.l (openM (Dk.mk du cu qu am lf dn)))), .int .i64 (Lg.fin (Lr.l (openM (Dk.mk du cu qu am lf dn)))), .bool (Lg.failed (Lr.l (openM (Dk.mk du cu qu am lf dn))))]]))
  | _, _ => (false, ([], []))

noncomputable def s59 : Go.Abs.Spec := fun args blk => match args, blk with
  | [.one (.sl false 22 r)], [] => ((okRs r), ([.one (.sl true 22 (cloneR r))], []))
  | _, _ => (false, ([], []))

noncomputable def s28 : Go.Abs.Spec := fun args blk => match args, blk with
  | [.one (.ptr 0 0)], [.var [.ptr 1 0, .int .i64 ac, .int .u64 ge, .sl true 22 rc, .int .i64 fi, .bool fa], .var [.msl 5 2 un, .msl 5 3 cn, .sl true 85 qu, .bool am, .int .i64 lf, .bool dn], .arr 5 du, .arr 5 cu] => ((okRs rc), ([.one (.sl true 22 (cloneR rc))], [.var [.ptr 1 0, .int .i64 ac, .int .u64 ge, .sl true 22 rc, .int .i64 fi, .bool fa], .var [.msl 5 2 un, .msl 5 3 cn, .sl true 85 qu, .bool am, .int .i64 lf, .bool dn], .arr 5 du, .arr 5 cu]))
  | [.one (.nilp)], [] => (true, ([.one (.sl true 22 ([] : List (List Cell)))], []))
  | _, _ => (false, ([], []))

noncomputable def s29 : Go.Abs.Spec := fun args blk => match args, blk with
  | [.one (.ptr 0 0)], [.var [.ptr 1 0, .int .i64 ac, .int .u64 ge, .sl true 22 rc, .int .i64 fi, .bool fa], .var [.msl 5 2 un, .msl 5 3 cn, .sl true 85 qu, .bool am, .int .i64 lf, .bool dn], .arr 5 du, .arr 5 cu] => (true, ([.one (.int .u64 ge)], [.var [.ptr 1 0, .int .i64 ac, .int .u64 ge, .sl true 22 rc, .int .i64 fi, .bool fa], .var [.msl 5 2 un, .msl 5 3 cn, .sl true 85 qu, .bool am, .int .i64 lf, .bool dn], .arr 5 du, .arr 5 cu]))
  | [.one (.nilp)], [] => (true, ([.one (.int .u64 0)], []))
  | _, _ => (false, ([], []))

noncomputable def s30 : Go.Abs.Spec := fun args blk => match args, blk with
  | [.one (.ptr 0 0)], [.var [.ptr 1 0, .int .i64 ac, .int .u64 ge, .sl true 22 rc, .int .i64 fi, .bool fa], .var [.msl 5 2 un, .msl 5 3 cn, .sl true 85 qu, .bool am, .int .i64 lf, .bool dn], .arr 5 du, .arr 5 cu] => ((okDk un cn (Dk.mk du cu qu am lf dn) && okLg (Dk.mk du cu qu am lf dn) (Lg.mk ac ge rc fi fa)), ([.one (.int .i64 (Lg.free (Lg.mk ac ge rc fi fa) (Dk.mk du cu qu am lf dn)))], [.var [.ptr 1 0, .int .i64 ac, .int .u64 ge, .sl true 22 rc, .int .i64 fi, .bool fa], .var [.msl 5 2 un, .msl 5 3 cn, .sl true 85 qu, .bool am, .int .i64 lf, .bool dn], .arr 5 du, .arr 5 cu]))
  | [.one (.nilp)], [] => (true, ([.one (.int .i64 0)], []))
  | _, _ => (false, ([], []))

noncomputable def s61 : Go.Abs.Spec := fun args blk => match args, blk with
  | [.one (.ptr 0 0)], [.var [.ptr 1 0, .int .i64 ac, .int .u64 ge, .sl true 22 rc, .int .i64 fi, .bool fa], .var [.msl 5 2 un, .msl 5 3 cn, .sl true 85 qu, .bool am, .int .i64 lf, .bool dn], .arr 5 du, .arr 5 cu] => (true, ([.one (.int .i64 (useE fa))], [.var [.ptr 1 0, .int .i64 ac, .int .u64 ge, .sl true 22 rc, .int .i64 fi, .bool fa], .var [.msl 5 2 un, .msl 5 3 cn, .sl true 85 qu, .bool am, .int .i64 lf, .bool dn], .arr 5 du, .arr 5 cu]))
  | [.one (.nilp)], [] => (true, ([.one (.int .i64 17)], []))
  | _, _ => (false, ([], []))

noncomputable def s62 : Go.Abs.Spec := fun args blk => match args, blk with
  | [.one (.sl false 5 x)], [] => (true, ([.one (.int .i64 (recE x))], []))
  | _, _ => (false, ([], []))

noncomputable def s33 : Go.Abs.Spec := fun args blk => match args, blk with
  | [.one (.ptr 0 0), .one (.sl false 5 x)], [.var [.ptr 1 0, .int .i64 ac, .int .u64 ge, .sl true 22 rc, .int .i64 fi, .bool fa], .var [.msl 5 2 un, .msl 5 3 cn, .sl true 85 qu, .bool am, .int .i64 lf, .bool dn], .arr 5 du, .arr 5 cu] => ((okDk un cn (Dk.mk du cu qu am lf dn) && okLg (Dk.mk du cu qu am lf dn) (Lg.mk ac ge rc fi fa) && okAp (Dk.mk du cu qu am lf dn) x), ([.one (.int .i64 (Lr.e (appM (Dk.mk du cu qu am lf dn) (Lg.mk ac ge rc fi fa) x)))], [.var [.ptr 1 0, .int .i64 (Lg.act (Lr.l (appM (Dk.mk du cu qu am lf dn) (Lg.mk ac ge rc fi fa) x))), .int .u64 (Lg.gen (Lr.l (appM (Dk.mk du cu qu am lf dn) (Lg.mk ac ge rc fi fa) x))), .sl true 22 (Lg.recs (Lr.l (appM (Dk.mk du cu qu am lf dn) (Lg.mk ac ge rc fi fa) x))), .int .i64 (Lg.fin (Lr.l (appM (Dk.mk du cu qu am lf dn) (Lg.mk ac ge rc fi fa) x))), .bool (Lg.failed (Lr.l (appM (Dk.mk du cu qu am lf dn) (Lg.mk ac ge rc fi fa) x)))], .var [.msl 5 2 un, .msl 5 3 cn, .sl true 85 (Dk.q (Lr.d (appM (Dk.mk du cu qu am lf dn) (Lg.mk ac ge rc fi fa) x))), .bool (Dk.arm (Lr.d (appM (Dk.mk du cu qu am lf dn) (Lg.mk ac ge rc fi fa) x))), .int .i64 (Dk.left (Lr.d (appM (Dk.mk du cu qu am lf dn) (Lg.mk ac ge rc fi fa) x))), .bool (Dk.down (Lr.d (appM (Dk.mk du cu qu am lf dn) (Lg.mk ac ge rc fi fa) x)))], .arr 5 (Dk.dur (Lr.d (appM (Dk.mk du cu qu am lf dn) (Lg.mk ac ge rc fi fa) x))), .arr 5 (Dk.cur (Lr.d (appM (Dk.mk du cu qu am lf dn) (Lg.mk ac ge rc fi fa) x)))]))
  | [.one (.nilp), .one (.sl false 5 x)], [] => (true, ([.one (.int .i64 17)], []))
  | [.one (.ptr 0 0), .one (.nils)], [.var [.ptr 1 0, .int .i64 ac, .int .u64 ge, .sl true 22 rc, .int .i64 fi, .bool fa], .var [.msl 5 2 un, .msl 5 3 cn, .sl true 85 qu, .bool am, .int .i64 lf, .bool dn], .arr 5 du, .arr 5 cu] => ((okDk un cn (Dk.mk du cu qu am lf dn) && okLg (Dk.mk du cu qu am lf dn) (Lg.mk ac ge rc fi fa) && okAp (Dk.mk du cu qu am lf dn) []), ([.one (.int .i64 (Lr.e (appM (Dk.mk du cu qu am lf dn) (Lg.mk ac ge rc fi fa) [])))], [.var [.ptr 1 0, .int .i64 (Lg.act (Lr.l (appM (Dk.mk du cu qu am lf dn) (Lg.mk ac ge rc fi fa) []))), .int .u64 (Lg.gen (Lr.l (appM (Dk.mk du cu qu am lf dn) (Lg.mk ac ge rc fi fa) []))), .sl true 22 (Lg.recs (Lr.l (appM (Dk.mk du cu qu am lf dn) (Lg.mk ac ge rc fi fa) []))), .int .i64 (Lg.fin (Lr.l (appM (Dk.mk du cu qu am lf dn) (Lg.mk ac ge rc fi fa) []))), .bool (Lg.failed (Lr.l (appM (Dk.mk du cu qu am lf dn) (Lg.mk ac ge rc fi fa) [])))], .var [.msl 5 2 un, .msl 5 3 cn, .sl true 85 (Dk.q (Lr.d (appM (Dk.mk du cu qu am lf dn) (Lg.mk ac ge rc fi fa) []))), .bool (Dk.arm (Lr.d (appM (Dk.mk du cu qu am lf dn) (Lg.mk ac ge rc fi fa) []))), .int .i64 (Dk.left (Lr.d (appM (Dk.mk du cu qu am lf dn) (Lg.mk ac ge rc fi fa) []))), .bool (Dk.down (Lr.d (appM (Dk.mk du cu qu am lf dn) (Lg.mk ac ge rc fi fa) [])))], .arr 5 (Dk.dur (Lr.d (appM (Dk.mk du cu qu am lf dn) (Lg.mk ac ge rc fi fa) []))), .arr 5 (Dk.cur (Lr.d (appM (Dk.mk du cu qu am lf dn) (Lg.mk ac ge rc fi fa) [])))]))
  | _, _ => (false, ([], []))

noncomputable def s34 : Go.Abs.Spec := fun args blk => match args, blk with
  | [.one (.ptr 0 0), .one (.sl false 22 r)], [.var [.ptr 1 0, .int .i64 ac, .int .u64 ge, .sl true 22 rc, .int .i64 fi, .bool fa], .var [.msl 5 2 un, .msl 5 3 cn, .sl true 85 qu, .bool am, .int .i64 lf, .bool dn], .arr 5 du, .arr 5 cu] => ((okDk un cn (Dk.mk du cu qu am lf dn) && okLg (Dk.mk du cu qu am lf dn) (Lg.mk ac ge rc fi fa) && okRp (Dk.mk du cu qu am lf dn) r), ([.one (.int .i64 (Lr.e (repM (Dk.mk du cu qu am lf dn) (Lg.mk ac ge rc fi fa) r)))], [.var [.ptr 1 0, .int .i64 (Lg.act (Lr.l (repM (Dk.mk du cu qu am lf dn) (Lg.mk ac ge rc fi fa) r))), .int .u64 (Lg.gen (Lr.l (repM (Dk.mk du cu qu am lf dn) (Lg.mk ac ge rc fi fa) r))), .sl true 22 (Lg.recs (Lr.l (repM (Dk.mk du cu qu am lf dn) (Lg.mk ac ge rc fi fa) r))), .int .i64 (Lg.fin (Lr.l (repM (Dk.mk du cu qu am lf dn) (Lg.mk ac ge rc fi fa) r))), .bool (Lg.failed (Lr.l (repM (Dk.mk du cu qu am lf dn) (Lg.mk ac ge rc fi fa) r)))], .var [.msl 5 2 un, .msl 5 3 cn, .sl true 85 (Dk.q (Lr.d (repM (Dk.mk du cu qu am lf dn) (Lg.mk ac ge rc fi fa) r))), .bool (Dk.arm (Lr.d (repM (Dk.mk du cu qu am lf dn) (Lg.mk ac ge rc fi fa) r))), .int .i64 (Dk.left (Lr.d (repM (Dk.mk du cu qu am lf dn) (Lg.mk ac ge rc fi fa) r))), .bool (Dk.down (Lr.d (repM (Dk.mk du cu qu am lf dn) (Lg.mk ac ge rc fi fa) r)))], .arr 5 (Dk.dur (Lr.d (repM (Dk.mk du cu qu am lf dn) (Lg.mk ac ge rc fi fa) r))), .arr 5 (Dk.cur (Lr.d (repM (Dk.mk du cu qu am lf dn) (Lg.mk ac ge rc fi fa) r)))]))
  | [.one (.nilp), .one (.nils)], [] => (true, ([.one (.int .i64 17)], []))
  | [.one (.ptr 0 0), .one (.nils)], [.var [.ptr 1 0, .int .i64 ac, .int .u64 ge, .sl true 22 rc, .int .i64 fi, .bool fa], .var [.msl 5 2 un, .msl 5 3 cn, .sl true 85 qu, .bool am, .int .i64 lf, .bool dn], .arr 5 du, .arr 5 cu] => ((okDk un cn (Dk.mk du cu qu am lf dn) && okLg (Dk.mk du cu qu am lf dn) (Lg.mk ac ge rc fi fa) && okRp (Dk.mk du cu qu am lf dn) []), ([.one (.int .i64 (Lr.e (repM (Dk.mk du cu qu am lf dn) (Lg.mk ac ge rc fi fa) [])))], [.var [.ptr 1 0, .int .i64 (Lg.act (Lr.l (repM (Dk.mk du cu qu am lf dn) (Lg.mk ac ge rc fi fa) []))), .int .u64 (Lg.gen (Lr.l (repM (Dk.mk du cu qu am lf dn) (Lg.mk ac ge rc fi fa) []))), .sl true 22 (Lg.recs (Lr.l (repM (Dk.mk du cu qu am lf dn) (Lg.mk ac ge rc fi fa) []))), .int .i64 (Lg.fin (Lr.l (repM (Dk.mk du cu qu am lf dn) (Lg.mk ac ge rc fi fa) []))), .bool (Lg.failed (Lr.l (repM (Dk.mk du cu qu am lf dn) (Lg.mk ac ge rc fi fa) [])))], .var [.msl 5 2 un, .msl 5 3 cn, .sl true 85 (Dk.q (Lr.d (repM (Dk.mk du cu qu am lf dn) (Lg.mk ac ge rc fi fa) []))), .bool (Dk.arm (Lr.d (repM (Dk.mk du cu qu am lf dn) (Lg.mk ac ge rc fi fa) []))), .int .i64 (Dk.left (Lr.d (repM (Dk.mk du cu qu am lf dn) (Lg.mk ac ge rc fi fa) []))), .bool (Dk.down (Lr.d (repM (Dk.mk du cu qu am lf dn) (Lg.mk ac ge rc fi fa) [])))], .arr 5 (Dk.dur (Lr.d (repM (Dk.mk du cu qu am lf dn) (Lg.mk ac ge rc fi fa) []))), .arr 5 (Dk.cur (Lr.d (repM (Dk.mk du cu qu am lf dn) (Lg.mk ac ge rc fi fa) [])))]))
  | _, _ => (false, ([], []))

noncomputable def s15 : Go.Abs.Spec := fun args blk => match args, blk with
  | [.one (.sl false 5 x), .one (.int .i64 n)], [] => ((pd ((0 : Int) ≤ n) && pd (n ≤ (1000 : Int))), ([.one (.sl true 5 (x.take (Int.toNat n)))], []))
  | _, _ => (false, ([], []))

noncomputable def s27 : Go.Abs.Spec := fun args blk => match args, blk with
  | [.one (.sl false 22 r), .one (.sl false 22 t)], [] => ((pd (r.length ≤ 9223372036854775807)), ([.one (.bool (sameR r t))], []))
  | _, _ => (false, ([], []))

noncomputable def s18 : Go.Abs.Spec := fun args blk => match args, blk with
  | [.one (.sl false 22 r), .one (.int .i64 k)], [] => ((pd (r.length ≤ 9223372036854775807) && pd (k ≤ (1000 : Int))), ([.one (.sl true 22 (mkRs r k))], []))
  | _, _ => (false, ([], []))

noncomputable def s26 : Go.Abs.Spec := fun args blk => match args, blk with
  | [], [] => (true, ([.one (.bool true)], []))
  | _, _ => (false, ([], []))

noncomputable def s42 : Go.Abs.Spec := fun args blk => match args, blk with
  | [.one (.int .u64 v), .one (.int .i64 k)], [] => ((okV v && okSz k), ([.one (.msl 5 0 (Int.toNat k))], [.arr 5 (bigF (Int.toNat k) v)]))
  | _, _ => (false, ([], []))

noncomputable def s75 : Go.Abs.Spec := fun args blk => match args, blk with
  | [.one (.sl false 5 x)], [] => ((okB x && pd (x.length ≤ 8)), ([.one (.int .u64 (numF 0 x))], []))
  | _, _ => (false, ([], []))

noncomputable def s43 : Go.Abs.Spec := fun args blk => match args, blk with
  | [.one (.sl false 5 x)], [] => ((okBl x), ([.one (.int .u32 (crcS x))], []))
  | [.one (.msl 5 0 un)], [.arr 5 x] => ((okBl x && Nat.beq un x.length), ([.one (.int .u32 (crcS x))], [.arr 5 x]))
  | _, _ => (false, ([], []))

noncomputable def s17 : Go.Abs.Spec := fun args blk => match args, blk with
  | [.one (.int .u64 g)], [] => ((okV g), ([.one (.sl false 5 (wHdr g))], []))
  | _, _ => (false, ([], []))

noncomputable def s19 : Go.Abs.Spec := fun args blk => match args, blk with
  | [.one (.int .u64 g), .one (.int .i64 o), .one (.sl false 5 x)], [] => ((okV g && okRx o x), ([.one (.sl false 5 (wEnc g o x))], []))
  | _, _ => (false, ([], []))

noncomputable def s76 : Go.Abs.Spec := fun args blk => match args, blk with
  | [.one (.sl false 5 x), .one (.sl false 5 y)], [] => (true, ([.one (.bool ((toBytes x) == (toBytes y)))], []))
  | _, _ => (false, ([], []))

noncomputable def s57 : Go.Abs.Spec := fun args blk => match args, blk with
  | [.one (.int .u64 g), .one (.sl false 5 x)], [] => ((okV g && okBl x), ([.one (.sl true 22 (wScan g x).1), .one (.int .i64 (wScan g x).2)], []))
  | _, _ => (false, ([], []))

noncomputable def s54 : Go.Abs.Spec := fun args blk => match args, blk with
  | [.one (.sl false 5 x)], [] => ((okBl x), ([.one (.bool (zeroB x))], []))
  | _, _ => (false, ([], []))

noncomputable def s13 : Go.Abs.Spec := fun args blk => match args, blk with
  | [.one (.int .i64 n)], [] => (true, ([.agg [.sl false 5 (Dk.dur (newDk n)), .sl true 99 ([] : List (List Cell)), .bool false, .bool false, .int .i64 0]], []))
  | _, _ => (false, ([], []))

noncomputable def s14 : Go.Abs.Spec := fun args blk => match args, blk with
  | [.one (.ptr 0 0)], [.var [.sl false 5 du, .sl true 99 qu, .bool dn, .bool am, .int .i64 lf]] => ((okR (rD du qu dn am lf)), ([.one (.int .i64 (secs du))], [.var [.sl false 5 du, .sl true 99 qu, .bool dn, .bool am, .int .i64 lf]]))
  | _, _ => (false, ([], []))

noncomputable def s69 : Go.Abs.Spec := fun args blk => match args, blk with
  | [.one (.ptr 0 0), .one (.int .i64 o), .one (.int .i64 k)], [.var [.sl false 5 du, .sl true 99 qu, .bool dn, .bool am, .int .i64 lf]] => ((okR (rD du qu dn am lf)), ([.one (.bool (rIn du o k))], [.var [.sl false 5 du, .sl true 99 qu, .bool dn, .bool am, .int .i64 lf]]))
  | _, _ => (false, ([], []))

noncomputable def s25 : Go.Abs.Spec := fun args blk => match args, blk with
  | [.one (.ptr 0 0)], [.var [.sl false 5 du, .sl true 99 qu, .bool dn, .bool am, .int .i64 lf]] => ((okR (rD du qu dn am lf)), ([.one (.sl false 5 (putQ du qu))], [.var [.sl false 5 du, .sl true 99 qu, .bool dn, .bool am, .int .i64 lf]]))
  | _, _ => (false, ([], []))

noncomputable def s41 : Go.Abs.Spec := fun args blk => match args, blk with
  | [.one (.ptr 0 0), .one (.int .i64 o), .one (.sl false 5 x)], [.var [.sl false 5 du, .sl true 99 qu, .bool dn, .bool am, .int .i64 lf]] => ((okR (rD du qu dn am lf) && okWx (rD du qu dn am lf) x), ([.one (.int .i64 (Dr.e (Dk.write (rD du qu dn am lf) o x)))], [.var [.sl false 5 (Dk.dur (Dr.d (Dk.write (rD du qu dn am lf) o x))), .sl true 99 (Dk.q (Dr.d (Dk.write (rD du qu dn am lf) o x))), .bool (Dk.down (Dr.d (Dk.write (rD du qu dn am lf) o x))), .bool (Dk.arm (Dr.d (Dk.write (rD du qu dn am lf) o x))), .int .i64 (Dk.left (Dr.d (Dk.write (rD du qu dn am lf) o x)))]]))
  | _, _ => (false, ([], []))

noncomputable def s21 : Go.Abs.Spec := fun args blk => match args, blk with
  | [.one (.ptr 0 0)], [.var [.sl false 5 du, .sl true 99 qu, .bool dn, .bool am, .int .i64 lf]] => ((okR (rD du qu dn am lf)), ([.one (.int .i64 (Dr.e (Dk.sync (rD du qu dn am lf))))], [.var [.sl false 5 (Dk.dur (Dr.d (Dk.sync (rD du qu dn am lf)))), .sl true 99 (Dk.q (Dr.d (Dk.sync (rD du qu dn am lf)))), .bool (Dk.down (Dr.d (Dk.sync (rD du qu dn am lf)))), .bool (Dk.arm (Dr.d (Dk.sync (rD du qu dn am lf)))), .int .i64 (Dk.left (Dr.d (Dk.sync (rD du qu dn am lf))))]]))
  | _, _ => (false, ([], []))

noncomputable def s58 : Go.Abs.Spec := fun args blk => match args, blk with
  | [.one (.ptr 0 0)], [.var [.sl false 5 du, .sl true 99 qu, .bool dn, .bool am, .int .i64 lf]] => ((okR (rD du qu dn am lf)), ([.one (.int .i64 (Dk.half (rD du qu dn am lf)))], [.var [.sl false 5 du, .sl true 99 qu, .bool dn, .bool am, .int .i64 lf]]))
  | _, _ => (false, ([], []))

noncomputable def s53 : Go.Abs.Spec := fun args blk => match args, blk with
  | [.one (.ptr 0 0), .one (.int .i64 s)], [.var [.sl false 5 du, .sl true 99 qu, .bool dn, .bool am, .int .i64 lf]] => ((okR (rD du qu dn am lf) && (okSeg s && pd (128 ≤ du.length))), ([.one (.int .u64 (Dk.gen (rD du qu dn am lf) s))], [.var [.sl false 5 du, .sl true 99 qu, .bool dn, .bool am, .int .i64 lf]]))
  | _, _ => (false, ([], []))

noncomputable def s55 : Go.Abs.Spec := fun args blk => match args, blk with
  | [.one (.ptr 0 0), .one (.int .i64 s)], [.var [.sl false 5 du, .sl true 99 qu, .bool dn, .bool am, .int .i64 lf]] => ((okR (rD du qu dn am lf) && (okSeg s && pd (128 ≤ du.length))), ([.one (.sl false 5 (Dk.area (rD du qu dn am lf) s))], [.var [.sl false 5 du, .sl true 99 qu, .bool dn, .bool am, .int .i64 lf]]))
  | _, _ => (false, ([], []))

noncomputable def s56 : Go.Abs.Spec := fun args blk => match args, blk with
  | [.one (.ptr 0 0), .one (.int .i64 o), .one (.sl false 5 x)], [.var [.sl false 5 du, .sl true 99 qu, .bool dn, .bool am, .int .i64 lf]] => ((okR (rD du qu dn am lf) && okWx (rD du qu dn am lf) x), ([.one (.int .i64 (Dr.e (Dk.store (rD du qu dn am lf) o x)))], [.var [.sl false 5 (Dk.dur (Dr.d (Dk.store (rD du qu dn am lf) o x))), .sl true 99 (Dk.q (Dr.d (Dk.store (rD du qu dn am lf) o x))), .bool (Dk.down (Dr.d (Dk.store (rD du qu dn am lf) o x))), .bool (Dk.arm (Dr.d (Dk.store (rD du qu dn am lf) o x))), .int .i64 (Dk.left (Dr.d (Dk.store (rD du qu dn am lf) o x)))]]))
  | _, _ => (false, ([], []))

noncomputable def s23 : Go.Abs.Spec := fun args blk => match args, blk with
  | [.one (.ptr 0 0)], [.var [.sl false 5 du, .sl true 99 qu, .bool dn, .bool am, .int .i64 lf]] => ((false && okR (rD du qu dn am lf)), ([.one (.ptr 1 0), .one (.int .i64 0)], [.var [.sl false 5 (Dk.dur (Lr.d (openM (rD du qu dn am lf)))), .sl true 99 (Dk.q (Lr.d (openM (rD du qu dn am lf)))), .bool (Dk.down (Lr.d (openM (rD du qu dn am lf)))), .bool (Dk.arm (Lr.d (openM (rD du qu dn am lf)))), .int .i64 (Dk.left (Lr.d (openM (rD du qu dn am lf))))], .var [.ptr 0 0, .int .i64 (Lg.act (Lr.l (openM (rD du qu dn am lf)))), .int .u64 (Lg.gen (Lr.l (openM (rD du qu dn am lf)))), .sl true 22 (Lg.recs (Lr.l (openM (rD du qu dn am lf)))), .int .i64 (Lg.fin (Lr.l (openM (rD du qu dn am lf)))), .bool (Lg.failed (Lr.l (openM (rD du qu dn am lf))))]]))
  | _, _ => (false, ([], []))

noncomputable def s60 : Go.Abs.Spec := fun args blk => match args, blk with
  | [.one (.ptr 0 0)], [.var [.ptr 1 0, .int .i64 ac, .int .u64 ge, .sl true 22 rc, .int .i64 fi, .bool fa], .var [.sl false 5 du, .sl true 99 qu, .bool dn, .bool am, .int .i64 lf]] => ((okR (rD du qu dn am lf)), ([.one (.int .i64 (Dk.half (rD du qu dn am lf) - 32))], [.var [.ptr 1 0, .int .i64 ac, .int .u64 ge, .sl true 22 rc, .int .i64 fi, .bool fa], .var [.sl false 5 du, .sl true 99 qu, .bool dn, .bool am, .int .i64 lf]]))
  | _, _ => (false, ([], []))

noncomputable def s31 : Go.Abs.Spec := fun args blk => match args, blk with
  | [.one (.ptr 0 0)], [.var [.ptr 1 0, .int .i64 ac, .int .u64 ge, .sl true 22 rc, .int .i64 fi, .bool fa], .var [.sl false 5 du, .sl true 99 qu, .bool dn, .bool am, .int .i64 lf]] => ((okR (rD du qu dn am lf) && okLg (rD du qu dn am lf) (Lg.mk ac ge rc fi fa)), ([.one (.int .i64 (Lg.free (Lg.mk ac ge rc fi fa) (rD du qu dn am lf)))], [.var [.ptr 1 0, .int .i64 ac, .int .u64 ge, .sl true 22 rc, .int .i64 fi, .bool fa], .var [.sl false 5 du, .sl true 99 qu, .bool dn, .bool am, .int .i64 lf]]))
  | _, _ => (false, ([], []))

noncomputable def s16 : Go.Abs.Spec := fun args blk => match args, blk with
  | [.one (.ptr 0 0), .one (.ptr 3 0), .one (.int .i64 a), .one (.sl false 5 x)], [.var [.msl 5 1 un, .msl 5 2 cn, .sl true 85 qu, .bool am, .int .i64 lf, .bool dn], .arr 5 du, .arr 5 cu, .var [.sl false 5 ru, .sl true 99 rq, .bool rn, .bool ra, .int .i64 rl]] => ((okDk un cn (Dk.mk du cu qu am lf dn) && (okR (rD ru rq rn ra rl) && (okWx (Dk.mk du cu qu am lf dn) x && (okWx (rD ru rq rn ra rl) x && (pd ((0 : Int) ≤ a) && pd (a ≤ (1000000 : Int))))))), ([], [.var [.msl 5 1 un, .msl 5 2 cn, .sl true 85 (Dk.q (Dr.d (Dk.write (Dk.mk du cu qu am lf dn) a (cutX x ru.length a)))), .bool (Dk.arm (Dr.d (Dk.write (Dk.mk du cu qu am lf dn) a (cutX x ru.length a)))), .int .i64 (Dk.left (Dr.d (Dk.write (Dk.mk du cu qu am lf dn) a (cutX x ru.length a)))), .bool (Dk.down (Dr.d (Dk.write (Dk.mk du cu qu am lf dn) a (cutX x ru.length a))))], .arr 5 (Dk.dur (Dr.d (Dk.write (Dk.mk du cu qu am lf dn) a (cutX x ru.length a)))), .arr 5 (Dk.cur (Dr.d (Dk.write (Dk.mk du cu qu am lf dn) a (cutX x ru.length a)))), .var [.sl false 5 (Dk.dur (Dr.d (Dk.write (rD ru rq rn ra rl) a (cutX x ru.length a)))), .sl true 99 (Dk.q (Dr.d (Dk.write (rD ru rq rn ra rl) a (cutX x ru.length a)))), .bool (Dk.down (Dr.d (Dk.write (rD ru rq rn ra rl) a (cutX x ru.length a)))), .bool (Dk.arm (Dr.d (Dk.write (rD ru rq rn ra rl) a (cutX x ru.length a)))), .int .i64 (Dk.left (Dr.d (Dk.write (rD ru rq rn ra rl) a (cutX x ru.length a))))]]))
  | _, _ => (false, ([], []))

noncomputable def s3 : Go.Abs.Spec := fun args blk => match args, blk with
  | [.one (.int .i64 z), .one (.sl false 5 a), .one (.sl false 5 b), .one (.int .i64 g), .one (.int .i64 j), .one (.sl false 22 r), .one (.int .i64 w)], [] => ((okB a && (okB b && okArg r)), ([.one (.bool true)], []))
  | _, _ => (false, ([], []))

noncomputable def L : List (Nat × Go.Abs.Spec) := []

noncomputable def L11 : List (Nat × Go.Abs.Spec) := (11, s11) :: L

noncomputable def L72 : List (Nat × Go.Abs.Spec) := (72, s72) :: L11

noncomputable def L73 : List (Nat × Go.Abs.Spec) := (73, s73) :: L72

noncomputable def L71 : List (Nat × Go.Abs.Spec) := (71, s71) :: L73

noncomputable def L51 : List (Nat × Go.Abs.Spec) := (51, s51) :: L71

noncomputable def L46 : List (Nat × Go.Abs.Spec) := (46, s46) :: L51

noncomputable def L77 : List (Nat × Go.Abs.Spec) := (77, s77) :: L46

noncomputable def L63 : List (Nat × Go.Abs.Spec) := (63, s63) :: L77

noncomputable def L74 : List (Nat × Go.Abs.Spec) := (74, s74) :: L63

noncomputable def L52 : List (Nat × Go.Abs.Spec) := (52, s52) :: L74

noncomputable def L49 : List (Nat × Go.Abs.Spec) := (49, s49) :: L52

noncomputable def L12 : List (Nat × Go.Abs.Spec) := (12, s12) :: L49

noncomputable def L32 : List (Nat × Go.Abs.Spec) := (32, s32) :: L12

noncomputable def L38 : List (Nat × Go.Abs.Spec) := (38, s38) :: L32

noncomputable def L44 : List (Nat × Go.Abs.Spec) := (44, s44) :: L38

noncomputable def L35 : List (Nat × Go.Abs.Spec) := (35, s35) :: L44

noncomputable def L36 : List (Nat × Go.Abs.Spec) := (36, s36) :: L35

noncomputable def L20 : List (Nat × Go.Abs.Spec) := (20, s20) :: L36

noncomputable def L39 : List (Nat × Go.Abs.Spec) := (39, s39) :: L20

noncomputable def L40 : List (Nat × Go.Abs.Spec) := (40, s40) :: L39

noncomputable def L24 : List (Nat × Go.Abs.Spec) := (24, s24) :: L40

noncomputable def L70 : List (Nat × Go.Abs.Spec) := (70, s70) :: L24

noncomputable def L45 : List (Nat × Go.Abs.Spec) := (45, s45) :: L70

noncomputable def L47 : List (Nat × Go.Abs.Spec) := (47, s47) :: L45

noncomputable def L48 : List (Nat × Go.Abs.Spec) := (48, s48) :: L47

noncomputable def L50 : List (Nat × Go.Abs.Spec) := (50, s50) :: L48

noncomputable def L22 : List (Nat × Go.Abs.Spec) := (22, s22) :: L50

noncomputable def L59 : List (Nat × Go.Abs.Spec) := (59, s59) :: L22

noncomputable def L28 : List (Nat × Go.Abs.Spec) := (28, s28) :: L59

noncomputable def L29 : List (Nat × Go.Abs.Spec) := (29, s29) :: L28

noncomputable def L30 : List (Nat × Go.Abs.Spec) := (30, s30) :: L29

noncomputable def L61 : List (Nat × Go.Abs.Spec) := (61, s61) :: L30

noncomputable def L62 : List (Nat × Go.Abs.Spec) := (62, s62) :: L61

noncomputable def L33 : List (Nat × Go.Abs.Spec) := (33, s33) :: L62

noncomputable def L34 : List (Nat × Go.Abs.Spec) := (34, s34) :: L33

noncomputable def L15 : List (Nat × Go.Abs.Spec) := (15, s15) :: L34

noncomputable def L27 : List (Nat × Go.Abs.Spec) := (27, s27) :: L15

noncomputable def L18 : List (Nat × Go.Abs.Spec) := (18, s18) :: L27

noncomputable def L26 : List (Nat × Go.Abs.Spec) := (26, s26) :: L18

noncomputable def L42 : List (Nat × Go.Abs.Spec) := (42, s42) :: L26

noncomputable def L75 : List (Nat × Go.Abs.Spec) := (75, s75) :: L42

noncomputable def L43 : List (Nat × Go.Abs.Spec) := (43, s43) :: L75

noncomputable def L17 : List (Nat × Go.Abs.Spec) := (17, s17) :: L43

noncomputable def L19 : List (Nat × Go.Abs.Spec) := (19, s19) :: L17

noncomputable def L76 : List (Nat × Go.Abs.Spec) := (76, s76) :: L19

noncomputable def L57 : List (Nat × Go.Abs.Spec) := (57, s57) :: L76

noncomputable def L54 : List (Nat × Go.Abs.Spec) := (54, s54) :: L57

noncomputable def L13 : List (Nat × Go.Abs.Spec) := (13, s13) :: L54

noncomputable def L14 : List (Nat × Go.Abs.Spec) := (14, s14) :: L13

noncomputable def L69 : List (Nat × Go.Abs.Spec) := (69, s69) :: L14

noncomputable def L25 : List (Nat × Go.Abs.Spec) := (25, s25) :: L69

noncomputable def L41 : List (Nat × Go.Abs.Spec) := (41, s41) :: L25

noncomputable def L21 : List (Nat × Go.Abs.Spec) := (21, s21) :: L41

noncomputable def L58 : List (Nat × Go.Abs.Spec) := (58, s58) :: L21

noncomputable def L53 : List (Nat × Go.Abs.Spec) := (53, s53) :: L58

noncomputable def L55 : List (Nat × Go.Abs.Spec) := (55, s55) :: L53

noncomputable def L56 : List (Nat × Go.Abs.Spec) := (56, s56) :: L55

noncomputable def L23 : List (Nat × Go.Abs.Spec) := (23, s23) :: L56

noncomputable def L60 : List (Nat × Go.Abs.Spec) := (60, s60) :: L23

noncomputable def L31 : List (Nat × Go.Abs.Spec) := (31, s31) :: L60

noncomputable def L16 : List (Nat × Go.Abs.Spec) := (16, s16) :: L31

noncomputable def okO (d : Dk) : Bool := pd ((openM d).e = 0)

noncomputable def tl22 (d : Dk) : List Block := cond (okO d) [.var [.ptr 0 0, .int .i64 (openM d).l.act, .int .u64 (openM d).l.gen, .sl true 22 (openM d).l.recs, .int .i64 (openM d).l.fin, .bool (openM d).l.failed]] []

noncomputable def R22 (un cn : Nat) (d : Dk) : List AV × List Block :=
  ([.one (cond (okO d) (.ptr 3 0) .nilp), .one (.int .i64 (openM d).e)], [.var [.msl 5 1 un, .msl 5 2 cn, .sl true 85 (openM d).d.q, .bool (openM d).d.arm, .int .i64 (openM d).d.left, .bool (openM d).d.down], .arr 5 (openM d).d.dur, .arr 5 (openM d).d.cur] ++ tl22 d)

noncomputable def oL (l : List Block) : Lg := ⟨(acAt (blkAt l 0).toL 1).toI, (acAt (blkAt l 0).toL 2).toI, (acAt (blkAt l 0).toL 3).toR, (acAt (blkAt l 0).toL 4).toI, (acAt (blkAt l 0).toL 5).toB⟩

noncomputable def okM (un cn : Nat) (d : Dk) : Bool := Sig.ok ⟨[.one (.ptr 3 0), .one (.int .i64)], [[.msl 5 1, .msl 5 2, .sl true 85, .bool, .int .i64, .bool], [.arrp 5], [.arrp 5], [.ptr 0 0, .int .i64, .int .u64, .sl true 22, .int .i64, .bool]], []⟩ (R22 un cn d)

noncomputable def okF (un cn : Nat) (d : Dk) : Bool := Sig.ok ⟨[.one (.nilp), .one (.int .i64)], [[.msl 5 1, .msl 5 2, .sl true 85, .bool, .int .i64, .bool], [.arrp 5], [.arrp 5]], []⟩ (R22 un cn d)

noncomputable def s22b : Go.Abs.Spec := fun args blk => match args, blk with
  | [.one (.ptr 0 0)], [.var [.msl 5 1 un, .msl 5 2 cn, .sl true 85 qu, .bool am, .int .i64 lf, .bool dn], .arr 5 du, .arr 5 cu] => (okDk un cn (Dk.mk du cu qu am lf dn) && pd (qu.length ≤ 1000000), R22 un cn (Dk.mk du cu qu am lf dn))
  | _, _ => (false, ([], []))

noncomputable def L22b : List (Nat × Go.Abs.Spec) := (22, s22b) :: L16

noncomputable def tl23 (d : Dk) : List Block := tl22 d

noncomputable def R23 (d : Dk) : List AV × List Block :=
  ([.one (cond (okO d) (.ptr 1 0) .nilp), .one (.int .i64 (openM d).e)], [.var [.sl false 5 (openM d).d.dur, .sl true 99 (openM d).d.q, .bool (openM d).d.down, .bool (openM d).d.arm, .int .i64 (openM d).d.left]] ++ tl23 d)

noncomputable def okM3 (d : Dk) : Bool := Sig.ok ⟨[.one (.ptr 1 0), .one (.int .i64)], [[.sl false 5, .sl true 99, .bool, .bool, .int .i64], [.ptr 0 0, .int .i64, .int .u64, .sl true 22, .int .i64, .bool]], []⟩ (R23 d)

noncomputable def okF3 (d : Dk) : Bool := Sig.ok ⟨[.one (.nilp), .one (.int .i64)], [[.sl false 5, .sl true 99, .bool, .bool, .int .i64]], []⟩ (R23 d)

noncomputable def s23b : Go.Abs.Spec := fun args blk => match args, blk with
  | [.one (.ptr 0 0)], [.var [.sl false 5 du, .sl true 99 qu, .bool dn, .bool am, .int .i64 lf]] => (okR (rD du qu dn am lf) && pd (qu.length ≤ 1000000), R23 (rD du qu dn am lf))
  | _, _ => (false, ([], []))

noncomputable def L23b : List (Nat × Go.Abs.Spec) := (23, s23b) :: L22b

noncomputable def L3 : List (Nat × Go.Abs.Spec) := (3, s3) :: L23b

theorem tabs : tabB Try.prog E tyTab = true := by kernel_rfl

theorem good : Go.Abs.Good Try.prog E := good_of (l := tyTab) rfl tabs

end Go.Proofs.Ytpafnokcmhlbgaa

namespace Go.Proofs.Ytpafnokcmhlbgaa

open Go.Abs

set_option maxRecDepth 20000

theorem e11 (m : Nat) (n k : Int) : runF E (callOf L) (m + 1) 11 [.one (.int .i64 n), .one (.int .i64 k)] [] =
  (cond (decide (k < 1))
  (some ([.one (.int .i64 0)], []))
  (cond (decide (k = 0))
  none
  (cond (decide (k = 0))
  none
  (some ([.one (.int .i64 (Int.tmod (IntKind.wrap .i64 ((Int.tmod n k) + k)) k))], []))))) := by kernel_rfl

theorem e72 (m un : Nat) (v : Int) (x : List (List Cell)) : runF E (callOf L11) (m + 1) 72 [.one (.msl 5 0 un), .one (.int .u64 v), .one (.int .i64 8)] [.arr 5 x] =
  let z1 := IntKind.wrap .u8 (shrI .u64 v 56)
  let z2 := IntKind.wrap .u8 (shrI .u64 v 48)
  let z3 := IntKind.wrap .u8 (shrI .u64 v 40)
  let z4 := IntKind.wrap .u8 (shrI .u64 v 32)
  let z5 := IntKind.wrap .u8 (shrI .u64 v 24)
  let z6 := IntKind.wrap .u8 (shrI .u64 v 16)
  (cond (Nat.beq un x.length)
  (cond (fits (x.length + [[Cell.int .u8 z1]].length))
  (cond (Nat.beq (x.length + [[Cell.int .u8 z1]].length) (x ++ [[Cell.int .u8 z1]]).length)
  (cond (fits ((x ++ [[Cell.int .u8 z1]]).length + [[Cell.int .u8 z2]].length))
  (cond (Nat.beq ((x ++ [[Cell.int .u8 z1]]).length + [[Cell.int .u8 z2]].length) ((x ++ [[Cell.int .u8 z1]]) ++ [[Cell.int .u8 z2]]).length)
  (cond (fits (((x ++ [[Cell.int .u8 z1]]) ++ [[Cell.int .u8 z2]]).length + [[Cell.int .u8 z3]].length))
  (cond (Nat.beq (((x ++ [[Cell.int .u8 z1]]) ++ [[Cell.int .u8 z2]]).length + [[Cell.int .u8 z3]].length) (((x ++ [[Cell.int .u8 z1]]) ++ [[Cell.int .u8 z2]]) ++ [[Cell.int .u8 z3]]).length)
  (cond (fits ((((x ++ [[Cell.int .u8 z1]]) ++ [[Cell.int .u8 z2]]) ++ [[Cell.int .u8 z3]]).length + [[Cell.int .u8 z4]].length))
  (cond (Nat.beq ((((x ++ [[Cell.int .u8 z1]]) ++ [[Cell.int .u8 z2]]) ++ [[Cell.int .u8 z3]]).length + [[Cell.int .u8 z4]].length) ((((x ++ [[Cell.int .u8 z1]]) ++ [[Cell.int .u8 z2]]) ++ [[Cell.int .u8 z3]]) ++ [[Cell.int .u8 z4]]).length)
  (cond (fits (((((x ++ [[Cell.int .u8 z1]]) ++ [[Cell.int .u8 z2]]) ++ [[Cell.int .u8 z3]]) ++ [[Cell.int .u8 z4]]).length + [[Cell.int .u8 z5]].length))
  (cond (Nat.beq (((((x ++ [[Cell.int .u8 z1]]) ++ [[Cell.int .u8 z2]]) ++ [[Cell.int .u8 z3]]) ++ [[Cell.int .u8 z4]]).length + [[Cell.int .u8 z5]].length) (((((x ++ [[Cell.int .u8 z1]]) ++ [[Cell.int .u8 z2]]) ++ [[Cell.int .u8 z3]]) ++ [[Cell.int .u8 z4]]) ++ [[Cell.int .u8 z5]]).length)
  (cond (fits ((((((x ++ [[Cell.int .u8 z1]]) ++ [[Cell.int .u8 z2]]) ++ [[Cell.int .u8 z3]]) ++ [[Cell.int .u8 z4]]) ++ [[Cell.int .u8 z5]]).length + [[Cell.int .u8 z6]].length))
  (cond (Nat.beq ((((((x ++ [[Cell.int .u8 z1]]) ++ [[Cell.int .u8 z2]]) ++ [[Cell.int .u8 z3]]) ++ [[Cell.int .u8 z4]]) ++ [[Cell.int .u8 z5]]).length + [[Cell.int .u8 z6]].length) ((((((x ++ [[Cell.int .u8 z1]]) ++ [[Cell.int .u8 z2]]) ++ [[Cell.int .u8 z3]]) ++ [[Cell.int .u8 z4]]) ++ [[Cell.int .u8 z5]]) ++ [[Cell.int .u8 z6]]).length)
  (cond (fits (((((((x ++ [[Cell.int .u8 z1]]) ++ [[Cell.int .u8 z2]]) ++ [[Cell.int .u8 z3]]) ++ [[Cell.int .u8 z4]]) ++ [[Cell.int .u8 z5]]) ++ [[Cell.int .u8 z6]]).length + [[Cell.int .u8 (IntKind.wrap .u8 (shrI .u64 v 8))]].length))
  (cond (Nat.beq (((((((x ++ [[Cell.int .u8 z1]]) ++ [[Cell.int .u8 z2]]) ++ [[Cell.int .u8 z3]]) ++ [[Cell.int .u8 z4]]) ++ [[Cell.int .u8 z5]]) ++ [[Cell.int .u8 z6]]).length + [[Cell.int .u8 (IntKind.wrap .u8 (shrI .u64 v 8))]].length) (((((((x ++ [[Cell.int .u8 z1]]) ++ [[Cell.int .u8 z2]]) ++ [[Cell.int .u8 z3]]) ++ [[Cell.int .u8 z4]]) ++ [[Cell.int .u8 z5]]) ++ [[Cell.int .u8 z6]]) ++ [[Cell.int .u8 (IntKind.wrap .u8 (shrI .u64 v 8))]]).length)
  (cond (fits ((((((((x ++ [[Cell.int .u8 z1]]) ++ [[Cell.int .u8 z2]]) ++ [[Cell.int .u8 z3]]) ++ [[Cell.int .u8 z4]]) ++ [[Cell.int .u8 z5]]) ++ [[Cell.int .u8 z6]]) ++ [[Cell.int .u8 (IntKind.wrap .u8 (shrI .u64 v 8))]]).length + [[Cell.int .u8 (IntKind.wrap .u8 (shrI .u64 v 0))]].length))
  (some ([.one (.msl 5 1 ((((((((x ++ [[Cell.int .u8 z1]]) ++ [[Cell.int .u8 z2]]) ++ [[Cell.int .u8 z3]]) ++ [[Cell.int .u8 z4]]) ++ [[Cell.int .u8 z5]]) ++ [[Cell.int .u8 z6]]) ++ [[Cell.int .u8 (IntKind.wrap .u8 (shrI .u64 v 8))]]).length + [[Cell.int .u8 (IntKind.wrap .u8 (shrI .u64 v 0))]].length))], [.dead, .arr 5 ((((((((x ++ [[Cell.int .u8 z1]]) ++ [[Cell.int .u8 z2]]) ++ [[Cell.int .u8 z3]]) ++ [[Cell.int .u8 z4]]) ++ [[Cell.int .u8 z5]]) ++ [[Cell.int .u8 z6]]) ++ [[Cell.int .u8 (IntKind.wrap .u8 (shrI .u64 v 8))]]) ++ [[Cell.int .u8 (IntKind.wrap .u8 (shrI .u64 v 0))]])]))
  none)
  none)
  none)
  none)
  none)
  none)
  none)
  none)
  none)
  none)
  none)
  none)
  none)
  none)
  none)
  none) := by kernel_rfl

theorem e72_c1 (m un : Nat) (v : Int) (x : List (List Cell)) : runF E (callOf L11) (m + 1) 72 [.one (.msl 5 0 un), .one (.int .u64 v), .one (.int .i64 4)] [.arr 5 x] =
  (cond (Nat.beq un x.length)
  (cond (fits (x.length + [[Cell.int .u8 (IntKind.wrap .u8 (shrI .u64 v 24))]].length))
  (cond (Nat.beq (x.length + [[Cell.int .u8 (IntKind.wrap .u8 (shrI .u64 v 24))]].length) (x ++ [[Cell.int .u8 (IntKind.wrap .u8 (shrI .u64 v 24))]]).length)
  (cond (fits ((x ++ [[Cell.int .u8 (IntKind.wrap .u8 (shrI .u64 v 24))]]).length + [[Cell.int .u8 (IntKind.wrap .u8 (shrI .u64 v 16))]].length))
  (cond (Nat.beq ((x ++ [[Cell.int .u8 (IntKind.wrap .u8 (shrI .u64 v 24))]]).length + [[Cell.int .u8 (IntKind.wrap .u8 (shrI .u64 v 16))]].length) ((x ++ [[Cell.int .u8 (IntKind.wrap .u8 (shrI .u64 v 24))]]) ++ [[Cell.int .u8 (IntKind.wrap .u8 (shrI .u64 v 16))]]).length)
  (cond (fits (((x ++ [[Cell.int .u8 (IntKind.wrap .u8 (shrI .u64 v 24))]]) ++ [[Cell.int .u8 (IntKind.wrap .u8 (shrI .u64 v 16))]]).length + [[Cell.int .u8 (IntKind.wrap .u8 (shrI .u64 v 8))]].length))
  (cond (Nat.beq (((x ++ [[Cell.int .u8 (IntKind.wrap .u8 (shrI .u64 v 24))]]) ++ [[Cell.int .u8 (IntKind.wrap .u8 (shrI .u64 v 16))]]).length + [[Cell.int .u8 (IntKind.wrap .u8 (shrI .u64 v 8))]].length) (((x ++ [[Cell.int .u8 (IntKind.wrap .u8 (shrI .u64 v 24))]]) ++ [[Cell.int .u8 (IntKind.wrap .u8 (shrI .u64 v 16))]]) ++ [[Cell.int .u8 (IntKind.wrap .u8 (shrI .u64 v 8))]]).length)
  (cond (fits ((((x ++ [[Cell.int .u8 (IntKind.wrap .u8 (shrI .u64 v 24))]]) ++ [[Cell.int .u8 (IntKind.wrap .u8 (shrI .u64 v 16))]]) ++ [[Cell.int .u8 (IntKind.wrap .u8 (shrI .u64 v 8))]]).length + [[Cell.int .u8 (IntKind.wrap .u8 (shrI .u64 v 0))]].length))
  (some ([.one (.msl 5 1 ((((x ++ [[Cell.int .u8 (IntKind.wrap .u8 (shrI .u64 v 24))]]) ++ [[Cell.int .u8 (IntKind.wrap .u8 (shrI .u64 v 16))]]) ++ [[Cell.int .u8 (IntKind.wrap .u8 (shrI .u64 v 8))]]).length + [[Cell.int .u8 (IntKind.wrap .u8 (shrI .u64 v 0))]].length))], [.dead, .arr 5 ((((x ++ [[Cell.int .u8 (IntKind.wrap .u8 (shrI .u64 v 24))]]) ++ [[Cell.int .u8 (IntKind.wrap .u8 (shrI .u64 v 16))]]) ++ [[Cell.int .u8 (IntKind.wrap .u8 (shrI .u64 v 8))]]) ++ [[Cell.int .u8 (IntKind.wrap .u8 (shrI .u64 v 0))]])]))
  none)
  none)
  none)
  none)
  none)
  none)
  none)
  none) := by kernel_rfl

theorem e72_c2 (m lo un c : Nat) (v : Int) (x : List (List Cell)) : runF E (callOf L11) (m + 1) 72 [.one (.win 5 0 lo un (some c)), .one (.int .u64 v), .one (.int .i64 8)] [.arr 5 x] =
  let z1 := IntKind.wrap .u8 (shrI .u64 v 56)
  let z3 := IntKind.wrap .u8 (shrI .u64 v 48)
  let z5 := IntKind.wrap .u8 (shrI .u64 v 40)
  let z6 := IntKind.wrap .u8 (shrI .u64 v 32)
  let z7 := IntKind.wrap .u8 (shrI .u64 v 24)
  let z8 := IntKind.wrap .u8 (shrI .u64 v 16)
  let z9 := IntKind.wrap .u8 (shrI .u64 v 8)
  let z10 := overL (overL x (lo + un) [[Cell.int .u8 z1]]) (lo + (un + [[Cell.int .u8 z1]].length)) [[Cell.int .u8 z3]]
  let z2 := overL z10 (lo + ((un + [[Cell.int .u8 z1]].length) + [[Cell.int .u8 z3]].length)) [[Cell.int .u8 z5]]
  let z4 := overL z2 (lo + (((un + [[Cell.int .u8 z1]].length) + [[Cell.int .u8 z3]].length) + [[Cell.int .u8 z5]].length)) [[Cell.int .u8 z6]]
  (cond (Nat.blt 0 x.length)
  (cond (Nat.ble (un + [[Cell.int .u8 z1]].length) c)
  (cond (Nat.ble (lo + un + [[Cell.int .u8 z1]].length) x.length)
  (cond (Nat.blt 0 (overL x (lo + un) [[Cell.int .u8 z1]]).length)
  (cond (Nat.ble ((un + [[Cell.int .u8 z1]].length) + [[Cell.int .u8 z3]].length) c)
  (cond (Nat.ble (lo + (un + [[Cell.int .u8 z1]].length) + [[Cell.int .u8 z3]].length) (overL x (lo + un) [[Cell.int .u8 z1]]).length)
  (cond (Nat.blt 0 z10.length)
  (cond (Nat.ble (((un + [[Cell.int .u8 z1]].length) + [[Cell.int .u8 z3]].length) + [[Cell.int .u8 z5]].length) c)
  (cond (Nat.ble (lo + ((un + [[Cell.int .u8 z1]].length) + [[Cell.int .u8 z3]].length) + [[Cell.int .u8 z5]].length) z10.length)
  (cond (Nat.blt 0 z2.length)
  (cond (Nat.ble ((((un + [[Cell.int .u8 z1]].length) + [[Cell.int .u8 z3]].length) + [[Cell.int .u8 z5]].length) + [[Cell.int .u8 z6]].length) c)
  (cond (Nat.ble (lo + (((un + [[Cell.int .u8 z1]].length) + [[Cell.int .u8 z3]].length) + [[Cell.int .u8 z5]].length) + [[Cell.int .u8 z6]].length) z2.length)
  (cond (Nat.blt 0 z4.length)
  (cond (Nat.ble (((((un + [[Cell.int .u8 z1]].length) + [[Cell.int .u8 z3]].length) + [[Cell.int .u8 z5]].length) + [[Cell.int .u8 z6]].length) + [[Cell.int .u8 z7]].length) c)
  (cond (Nat.ble (lo + ((((un + [[Cell.int .u8 z1]].length) + [[Cell.int .u8 z3]].length) + [[Cell.int .u8 z5]].length) + [[Cell.int .u8 z6]].length) + [[Cell.int .u8 z7]].length) z4.length)
  (cond (Nat.blt 0 (overL z4 (lo + ((((un + [[Cell.int .u8 z1]].length) + [[Cell.int .u8 z3]].length) + [[Cell.int .u8 z5]].length) + [[Cell.int .u8 z6]].length)) [[Cell.int .u8 z7]]).length)
  (cond (Nat.ble ((((((un + [[Cell.int .u8 z1]].length) + [[Cell.int .u8 z3]].length) + [[Cell.int .u8 z5]].length) + [[Cell.int .u8 z6]].length) + [[Cell.int .u8 z7]].length) + [[Cell.int .u8 z8]].length) c)
  (cond (Nat.ble (lo + (((((un + [[Cell.int .u8 z1]].length) + [[Cell.int .u8 z3]].length) + [[Cell.int .u8 z5]].length) + [[Cell.int .u8 z6]].length) + [[Cell.int .u8 z7]].length) + [[Cell.int .u8 z8]].length) (overL z4 (lo + ((((un + [[Cell.int .u8 z1]].length) + [[Cell.int .u8 z3]].length) + [[Cell.int .u8 z5]].length) + [[Cell.int .u8 z6]].length)) [[Cell.int .u8 z7]]).length)
  (cond (Nat.blt 0 (overL (overL z4 (lo + ((((un + [[Cell.int .u8 z1]].length) + [[Cell.int .u8 z3]].length) + [[Cell.int .u8 z5]].length) + [[Cell.int .u8 z6]].length)) [[Cell.int .u8 z7]]) (lo + (((((un + [[Cell.int .u8 z1]].length) + [[Cell.int .u8 z3]].length) + [[Cell.int .u8 z5]].length) + [[Cell.int .u8 z6]].length) + [[Cell.int .u8 z7]].length)) [[Cell.int .u8 z8]]).length)
  (cond (Nat.ble (((((((un + [[Cell.int .u8 z1]].length) + [[Cell.int .u8 z3]].length) + [[Cell.int .u8 z5]].length) + [[Cell.int .u8 z6]].length) + [[Cell.int .u8 z7]].length) + [[Cell.int .u8 z8]].length) + [[Cell.int .u8 z9]].length) c)
  (cond (Nat.ble (lo + ((((((un + [[Cell.int .u8 z1]].length) + [[Cell.int .u8 z3]].length) + [[Cell.int .u8 z5]].length) + [[Cell.int .u8 z6]].length) + [[Cell.int .u8 z7]].length) + [[Cell.int .u8 z8]].length) + [[Cell.int .u8 z9]].length) (overL (overL z4 (lo + ((((un + [[Cell.int .u8 z1]].length) + [[Cell.int .u8 z3]].length) + [[Cell.int .u8 z5]].length) + [[Cell.int .u8 z6]].length)) [[Cell.int .u8 z7]]) (lo + (((((un + [[Cell.int .u8 z1]].length) + [[Cell.int .u8 z3]].length) + [[Cell.int .u8 z5]].length) + [[Cell.int .u8 z6]].length) + [[Cell.int .u8 z7]].length)) [[Cell.int .u8 z8]]).length)
  (cond (Nat.blt 0 (overL (overL (overL z4 (lo + ((((un + [[Cell.int .u8 z1]].length) + [[Cell.int .u8 z3]].length) + [[Cell.int .u8 z5]].length) + [[Cell.int .u8 z6]].length)) [[Cell.int .u8 z7]]) (lo + (((((un + [[Cell.int .u8 z1]].length) + [[Cell.int .u8 z3]].length) + [[Cell.int .u8 z5]].length) + [[Cell.int .u8 z6]].length) + [[Cell.int .u8 z7]].length)) [[Cell.int .u8 z8]]) (lo + ((((((un + [[Cell.int .u8 z1]].length) + [[Cell.int .u8 z3]].length) + [[Cell.int .u8 z5]].length) + [[Cell.int .u8 z6]].length) + [[Cell.int .u8 z7]].length) + [[Cell.int .u8 z8]].length)) [[Cell.int .u8 z9]]).length)
  (cond (Nat.ble ((((((((un + [[Cell.int .u8 z1]].length) + [[Cell.int .u8 z3]].length) + [[Cell.int .u8 z5]].length) + [[Cell.int .u8 z6]].length) + [[Cell.int .u8 z7]].length) + [[Cell.int .u8 z8]].length) + [[Cell.int .u8 z9]].length) + [[Cell.int .u8 (IntKind.wrap .u8 (shrI .u64 v 0))]].length) c)
  (cond (Nat.ble (lo + (((((((un + [[Cell.int .u8 z1]].length) + [[Cell.int .u8 z3]].length) + [[Cell.int .u8 z5]].length) + [[Cell.int .u8 z6]].length) + [[Cell.int .u8 z7]].length) + [[Cell.int .u8 z8]].length) + [[Cell.int .u8 z9]].length) + [[Cell.int .u8 (IntKind.wrap .u8 (shrI .u64 v 0))]].length) (overL (overL (overL z4 (lo + ((((un + [[Cell.int .u8 z1]].length) + [[Cell.int .u8 z3]].length) + [[Cell.int .u8 z5]].length) + [[Cell.int .u8 z6]].length)) [[Cell.int .u8 z7]]) (lo + (((((un + [[Cell.int .u8 z1]].length) + [[Cell.int .u8 z3]].length) + [[Cell.int .u8 z5]].length) + [[Cell.int .u8 z6]].length) + [[Cell.int .u8 z7]].length)) [[Cell.int .u8 z8]]) (lo + ((((((un + [[Cell.int .u8 z1]].length) + [[Cell.int .u8 z3]].length) + [[Cell.int .u8 z5]].length) + [[Cell.int .u8 z6]].length) + [[Cell.int .u8 z7]].length) + [[Cell.int .u8 z8]].length)) [[Cell.int .u8 z9]]).length)
  (some ([.one (.win 5 0 lo ((((((((un + [[Cell.int .u8 z1]].length) + [[Cell.int .u8 z3]].length) + [[Cell.int .u8 z5]].length) + [[Cell.int .u8 z6]].length) + [[Cell.int .u8 z7]].length) + [[Cell.int .u8 z8]].length) + [[Cell.int .u8 z9]].length) + [[Cell.int .u8 (IntKind.wrap .u8 (shrI .u64 v 0))]].length) (some c))], [.arr 5 (overL (overL (overL (overL z4 (lo + ((((un + [[Cell.int .u8 z1]].length) + [[Cell.int .u8 z3]].length) + [[Cell.int .u8 z5]].length) + [[Cell.int .u8 z6]].length)) [[Cell.int .u8 z7]]) (lo + (((((un + [[Cell.int .u8 z1]].length) + [[Cell.int .u8 z3]].length) + [[Cell.int .u8 z5]].length) + [[Cell.int .u8 z6]].length) + [[Cell.int .u8 z7]].length)) [[Cell.int .u8 z8]]) (lo + ((((((un + [[Cell.int .u8 z1]].length) + [[Cell.int .u8 z3]].length) + [[Cell.int .u8 z5]].length) + [[Cell.int .u8 z6]].length) + [[Cell.int .u8 z7]].length) + [[Cell.int .u8 z8]].length)) [[Cell.int .u8 z9]]) (lo + (((((((un + [[Cell.int .u8 z1]].length) + [[Cell.int .u8 z3]].length) + [[Cell.int .u8 z5]].length) + [[Cell.int .u8 z6]].length) + [[Cell.int .u8 z7]].length) + [[Cell.int .u8 z8]].length) + [[Cell.int .u8 z9]].length)) [[Cell.int .u8 (IntKind.wrap .u8 (shrI .u64 v 0))]])]))
  none)
  none)
  none)
  none)
  none)
  none)
  none)
  none)
  none)
  none)
  none)
  none)
  none)
  none)
  none)
  none)
  none)
  none)
  none)
  none)
  none)
  none)
  none)
  none) := by kernel_rfl

theorem e72_c3 (m lo un c : Nat) (v : Int) (x : List (List Cell)) : runF E (callOf L11) (m + 1) 72 [.one (.win 5 0 lo un (some c)), .one (.int .u64 v), .one (.int .i64 4)] [.arr 5 x] =
  let z2 := IntKind.wrap .u8 (shrI .u64 v 24)
  let z3 := IntKind.wrap .u8 (shrI .u64 v 16)
  let z1 := overL (overL x (lo + un) [[Cell.int .u8 z2]]) (lo + (un + [[Cell.int .u8 z2]].length)) [[Cell.int .u8 z3]]
  let z4 := overL z1 (lo + ((un + [[Cell.int .u8 z2]].length) + [[Cell.int .u8 z3]].length)) [[Cell.int .u8 (IntKind.wrap .u8 (shrI .u64 v 8))]]
  (cond (Nat.blt 0 x.length)
  (cond (Nat.ble (un + [[Cell.int .u8 z2]].length) c)
  (cond (Nat.ble (lo + un + [[Cell.int .u8 z2]].length) x.length)
  (cond (Nat.blt 0 (overL x (lo + un) [[Cell.int .u8 z2]]).length)
  (cond (Nat.ble ((un + [[Cell.int .u8 z2]].length) + [[Cell.int .u8 z3]].length) c)
  (cond (Nat.ble (lo + (un + [[Cell.int .u8 z2]].length) + [[Cell.int .u8 z3]].length) (overL x (lo + un) [[Cell.int .u8 z2]]).length)
  (cond (Nat.blt 0 z1.length)
  (cond (Nat.ble (((un + [[Cell.int .u8 z2]].length) + [[Cell.int .u8 z3]].length) + [[Cell.int .u8 (IntKind.wrap .u8 (shrI .u64 v 8))]].length) c)
  (cond (Nat.ble (lo + ((un + [[Cell.int .u8 z2]].length) + [[Cell.int .u8 z3]].length) + [[Cell.int .u8 (IntKind.wrap .u8 (shrI .u64 v 8))]].length) z1.length)
  (cond (Nat.blt 0 z4.length)
  (cond (Nat.ble ((((un + [[Cell.int .u8 z2]].length) + [[Cell.int .u8 z3]].length) + [[Cell.int .u8 (IntKind.wrap .u8 (shrI .u64 v 8))]].length) + [[Cell.int .u8 (IntKind.wrap .u8 (shrI .u64 v 0))]].length) c)
  (cond (Nat.ble (lo + (((un + [[Cell.int .u8 z2]].length) + [[Cell.int .u8 z3]].length) + [[Cell.int .u8 (IntKind.wrap .u8 (shrI .u64 v 8))]].length) + [[Cell.int .u8 (IntKind.wrap .u8 (shrI .u64 v 0))]].length) z4.length)
  (some ([.one (.win 5 0 lo ((((un + [[Cell.int .u8 z2]].length) + [[Cell.int .u8 z3]].length) + [[Cell.int .u8 (IntKind.wrap .u8 (shrI .u64 v 8))]].length) + [[Cell.int .u8 (IntKind.wrap .u8 (shrI .u64 v 0))]].length) (some c))], [.arr 5 (overL z4 (lo + (((un + [[Cell.int .u8 z2]].length) + [[Cell.int .u8 z3]].length) + [[Cell.int .u8 (IntKind.wrap .u8 (shrI .u64 v 8))]].length)) [[Cell.int .u8 (IntKind.wrap .u8 (shrI .u64 v 0))]])]))
  none)
  none)
  none)
  none)
  none)
  none)
  none)
  none)
  none)
  none)
  none)
  none) := by kernel_rfl

noncomputable def P73_0 : List AItem := F73.at [.snd, .snd, .fst, .snd, .sub, .head]

def M73_0 (t3 : Int) (t7 : List (List Cell)) (t8 : Int) (t9 : Int) : St := ⟨[(3, .one (.int .u32 t3)), (7, .one (.sl false 5 t7)), (8, .one (.int .i64 t8)), (9, .one (.int .i64 t9))], []⟩

noncomputable def P73_1 : List AItem := F73.at [.snd, .snd, .fst, .snd, .sub, .body, .snd, .snd, .fst, .sub, .snd, .snd, .snd, .sub, .head]

def M73_1 (t3 : Int) (t7 : List (List Cell)) (t8 : Int) (t9 : Int) (t17 : Int) : St := ⟨[(3, .one (.int .u32 t3)), (7, .one (.sl false 5 t7)), (8, .one (.int .i64 t8)), (9, .one (.int .i64 t9)), (17, .one (.int .i64 t17))], []⟩

theorem e73 (m : Nat) (x : List (List Cell)) : runF E (callOf L72) (m + 1) 73 [.one (.sl false 5 x)] [] =
  (goF E (callOf L72) F73 0 m P73_0 (M73_0 4294967295 x (x.length : Int) 0)) := by kernel_rfl

theorem e73_0 (m : Nat) (t3 : Int) (t7 : List (List Cell)) (t8 t9 : Int) : goF E (callOf L72) F73 0 (m + 1) P73_0 (M73_0 t3 t7 t8 t9) =
  (cond (decide (t9 < t8))
  (cond (inB t9 t7.length)
  (goF E (callOf L72) F73 0 m P73_1 (M73_1 (xorI .u32 t3 (IntKind.wrap .u32 (nr (Abs.rowAt t7 (Int.toNat t9)) 0))) t7 t8 t9 0))
  none)
  (some ([.one (.int .u32 (xorI .u32 4294967295 t3))], []))) := by kernel_rfl

theorem e73_1 (m : Nat) (t3 : Int) (t7 : List (List Cell)) (t8 t9 t17 : Int) : goF E (callOf L72) F73 0 (m + 1) P73_1 (M73_1 t3 t7 t8 t9 t17) =
  (cond (decide (t17 < 8))
  (cond ((andI .u32 t3 1) != 0)
  (goF E (callOf L72) F73 0 m P73_1 (M73_1 (xorI .u32 (shrI .u32 t3 1) 2197175160) t7 t8 t9 (IntKind.wrap .i64 (t17 + 1))))
  (goF E (callOf L72) F73 0 m P73_1 (M73_1 (shrI .u32 t3 1) t7 t8 t9 (IntKind.wrap .i64 (t17 + 1)))))
  (goF E (callOf L72) F73 0 m P73_0 (M73_0 t3 t7 t8 (IntKind.wrap .i64 (t9 + 1))))) := by kernel_rfl

noncomputable def P73_0_c1 : List AItem := F73.at [.snd, .snd, .fst, .snd, .sub, .head]

def M73_0_c1 (t3 : Int) (t7 : Nat) (t8 : Int) (t9 : Int) (b0 : List (List Cell)) : St := ⟨[(3, .one (.int .u32 t3)), (7, .one (.msl 5 0 t7)), (8, .one (.int .i64 t8)), (9, .one (.int .i64 t9))], [.arr 5 b0]⟩

noncomputable def P73_1_c1 : List AItem := F73.at [.snd, .snd, .fst, .snd, .sub, .body, .snd, .snd, .fst, .sub, .snd, .snd, .snd, .sub, .head]

def M73_1_c1 (t3 : Int) (t7 : Nat) (t8 : Int) (t9 : Int) (t17 : Int) (b0 : List (List Cell)) : St := ⟨[(3, .one (.int .u32 t3)), (7, .one (.msl 5 0 t7)), (8, .one (.int .i64 t8)), (9, .one (.int .i64 t9)), (17, .one (.int .i64 t17))], [.arr 5 b0]⟩

theorem e73_c1 (m un : Nat) (x : List (List Cell)) : runF E (callOf L72) (m + 1) 73 [.one (.msl 5 0 un)] [.arr 5 x] =
  (goF E (callOf L72) F73 1 m P73_0_c1 (M73_0_c1 4294967295 un (un : Int) 0 x)) := by kernel_rfl

theorem e73_0_c1 (m : Nat) (t3 : Int) (t7 : Nat) (t8 t9 : Int) (b0 : List (List Cell)) : goF E (callOf L72) F73 1 (m + 1) P73_0_c1 (M73_0_c1 t3 t7 t8 t9 b0) =
  (cond (decide (t9 < t8))
  (cond (inB t9 t7)
  (cond (Nat.blt (Int.toNat t9) b0.length)
  (goF E (callOf L72) F73 1 m P73_1_c1 (M73_1_c1 (xorI .u32 t3 (IntKind.wrap .u32 (nr (Abs.rowAt b0 (Int.toNat t9)) 0))) t7 t8 t9 0 b0))
  none)
  none)
  (some ([.one (.int .u32 (xorI .u32 4294967295 t3))], [.arr 5 b0]))) := by kernel_rfl

theorem e73_1_c1 (m : Nat) (t3 : Int) (t7 : Nat) (t8 t9 t17 : Int) (b0 : List (List Cell)) : goF E (callOf L72) F73 1 (m + 1) P73_1_c1 (M73_1_c1 t3 t7 t8 t9 t17 b0) =
  (cond (decide (t17 < 8))
  (cond ((andI .u32 t3 1) != 0)
  (goF E (callOf L72) F73 1 m P73_1_c1 (M73_1_c1 (xorI .u32 (shrI .u32 t3 1) 2197175160) t7 t8 t9 (IntKind.wrap .i64 (t17 + 1)) b0))
  (goF E (callOf L72) F73 1 m P73_1_c1 (M73_1_c1 (shrI .u32 t3 1) t7 t8 t9 (IntKind.wrap .i64 (t17 + 1)) b0)))
  (goF E (callOf L72) F73 1 m P73_0_c1 (M73_0_c1 t3 t7 t8 (IntKind.wrap .i64 (t9 + 1)) b0))) := by kernel_rfl

noncomputable def P73_0_c2 : List AItem := F73.at [.snd, .snd, .fst, .snd, .sub, .head]

def M73_0_c2 (t3 : Int) (t7 : Nat) (t7_1 : Nat) (t7_2 : Nat) (t8 : Int) (t9 : Int) (b0 : List (List Cell)) : St := ⟨[(3, .one (.int .u32 t3)), (7, .one (.win 5 0 t7 t7_1 (some t7_2))), (8, .one (.int .i64 t8)), (9, .one (.int .i64 t9))], [.arr 5 b0]⟩

noncomputable def P73_1_c2 : List AItem := F73.at [.snd, .snd, .fst, .snd, .sub, .body, .snd, .snd, .fst, .sub, .snd, .snd, .snd, .sub, .head]

def M73_1_c2 (t3 : Int) (t7 : Nat) (t7_1 : Nat) (t7_2 : Nat) (t8 : Int) (t9 : Int) (t17 : Int) (b0 : List (List Cell)) : St := ⟨[(3, .one (.int .u32 t3)), (7, .one (.win 5 0 t7 t7_1 (some t7_2))), (8, .one (.int .i64 t8)), (9, .one (.int .i64 t9)), (17, .one (.int .i64 t17))], [.arr 5 b0]⟩

theorem e73_c2 (m lo un c : Nat) (x : List (List Cell)) : runF E (callOf L72) (m + 1) 73 [.one (.win 5 0 lo un (some c))] [.arr 5 x] =
  (goF E (callOf L72) F73 1 m P73_0_c2 (M73_0_c2 4294967295 lo un c (un : Int) 0 x)) := by kernel_rfl

theorem e73_0_c2 (m : Nat) (t3 : Int) (t7 t7_1 t7_2 : Nat) (t8 t9 : Int) (b0 : List (List Cell)) : goF E (callOf L72) F73 1 (m + 1) P73_0_c2 (M73_0_c2 t3 t7 t7_1 t7_2 t8 t9 b0) =
  (cond (decide (t9 < t8))
  (cond (inB t9 t7_1)
  (cond (Nat.blt (t7 + (Int.toNat t9)) b0.length)
  (goF E (callOf L72) F73 1 m P73_1_c2 (M73_1_c2 (xorI .u32 t3 (IntKind.wrap .u32 (nr (Abs.rowAt b0 (t7 + (Int.toNat t9))) 0))) t7 t7_1 t7_2 t8 t9 0 b0))
  none)
  none)
  (some ([.one (.int .u32 (xorI .u32 4294967295 t3))], [.arr 5 b0]))) := by kernel_rfl

theorem e73_1_c2 (m : Nat) (t3 : Int) (t7 t7_1 t7_2 : Nat) (t8 t9 t17 : Int) (b0 : List (List Cell)) : goF E (callOf L72) F73 1 (m + 1) P73_1_c2 (M73_1_c2 t3 t7 t7_1 t7_2 t8 t9 t17 b0) =
  (cond (decide (t17 < 8))
  (cond ((andI .u32 t3 1) != 0)
  (goF E (callOf L72) F73 1 m P73_1_c2 (M73_1_c2 (xorI .u32 (shrI .u32 t3 1) 2197175160) t7 t7_1 t7_2 t8 t9 (IntKind.wrap .i64 (t17 + 1)) b0))
  (goF E (callOf L72) F73 1 m P73_1_c2 (M73_1_c2 (shrI .u32 t3 1) t7 t7_1 t7_2 t8 t9 (IntKind.wrap .i64 (t17 + 1)) b0)))
  (goF E (callOf L72) F73 1 m P73_0_c2 (M73_0_c2 t3 t7 t7_1 t7_2 t8 (IntKind.wrap .i64 (t9 + 1)) b0))) := by kernel_rfl

noncomputable def P71_0 : List AItem := F71.at [.snd, .snd, .fst, .snd, .sub, .head]

def M71_0 (t3 : Int) (t6 : List (List Cell)) (t7 : Int) (t8 : Int) : St := ⟨[(3, .one (.int .u64 t3)), (6, .one (.sl false 5 t6)), (7, .one (.int .i64 t7)), (8, .one (.int .i64 t8))], []⟩

theorem e71 (m : Nat) (x : List (List Cell)) : runF E (callOf L73) (m + 1) 71 [.one (.sl false 5 x)] [] =
  (goF E (callOf L73) F71 0 m P71_0 (M71_0 0 x (x.length : Int) 0)) := by kernel_rfl

theorem e71_0 (m : Nat) (t3 : Int) (t6 : List (List Cell)) (t7 t8 : Int) : goF E (callOf L73) F71 0 (m + 1) P71_0 (M71_0 t3 t6 t7 t8) =
  (cond (decide (t8 < t7))
  (cond (inB t8 t6.length)
  (goF E (callOf L73) F71 0 m P71_0 (M71_0 (orI .u64 (shlI .u64 t3 8) (IntKind.wrap .u64 (nr (Abs.rowAt t6 (Int.toNat t8)) 0))) t6 t7 (IntKind.wrap .i64 (t8 + 1))))
  none)
  (some ([.one (.int .u64 t3)], []))) := by kernel_rfl

theorem e51 (m : Nat) (g : Int) : runF E (callOf L71) (m + 1) 51 [.one (.int .u64 g)] [] =
  let z1 := IntKind.wrap .u64 (crcS ([[Cell.int .u8 69], [Cell.int .u8 83], [Cell.int .u8 76], [Cell.int .u8 49]] ++ bigF (Int.toNat 8) g))
  (cond (okV g && (okSz 8 && okMx 4 [[Cell.int .u8 69], [Cell.int .u8 83], [Cell.int .u8 76], [Cell.int .u8 49]]))
  (cond (okBl ([[Cell.int .u8 69], [Cell.int .u8 83], [Cell.int .u8 76], [Cell.int .u8 49]] ++ bigF (Int.toNat 8) g) && Nat.beq ([[Cell.int .u8 69], [Cell.int .u8 83], [Cell.int .u8 76], [Cell.int .u8 49]].length + Int.toNat 8) ([[Cell.int .u8 69], [Cell.int .u8 83], [Cell.int .u8 76], [Cell.int .u8 49]] ++ bigF (Int.toNat 8) g).length)
  (cond (okV z1 && (okSz 4 && okMx ([[Cell.int .u8 69], [Cell.int .u8 83], [Cell.int .u8 76], [Cell.int .u8 49]].length + Int.toNat 8) ([[Cell.int .u8 69], [Cell.int .u8 83], [Cell.int .u8 76], [Cell.int .u8 49]] ++ bigF (Int.toNat 8) g)))
  (cond (Nat.beq (([[Cell.int .u8 69], [Cell.int .u8 83], [Cell.int .u8 76], [Cell.int .u8 49]] ++ bigF (Int.toNat 8) g).length + Int.toNat 4) (([[Cell.int .u8 69], [Cell.int .u8 83], [Cell.int .u8 76], [Cell.int .u8 49]] ++ bigF (Int.toNat 8) g) ++ bigF (Int.toNat 4) z1).length)
  (cond (okMake (IntKind.wrap .i64 (32 - ((([[Cell.int .u8 69], [Cell.int .u8 83], [Cell.int .u8 76], [Cell.int .u8 49]] ++ bigF (Int.toNat 8) g).length + Int.toNat 4) : Int))) (IntKind.wrap .i64 (32 - ((([[Cell.int .u8 69], [Cell.int .u8 83], [Cell.int .u8 76], [Cell.int .u8 49]] ++ bigF (Int.toNat 8) g).length + Int.toNat 4) : Int))))
  (cond (fits ((([[Cell.int .u8 69], [Cell.int .u8 83], [Cell.int .u8 76], [Cell.int .u8 49]] ++ bigF (Int.toNat 8) g) ++ bigF (Int.toNat 4) z1).length + (Int.toNat (IntKind.wrap .i64 (32 - ((([[Cell.int .u8 69], [Cell.int .u8 83], [Cell.int .u8 76], [Cell.int .u8 49]] ++ bigF (Int.toNat 8) g).length + Int.toNat 4) : Int))))))
  (cond (Nat.beq ((([[Cell.int .u8 69], [Cell.int .u8 83], [Cell.int .u8 76], [Cell.int .u8 49]] ++ bigF (Int.toNat 8) g) ++ bigF (Int.toNat 4) z1).length + (Int.toNat (IntKind.wrap .i64 (32 - ((([[Cell.int .u8 69], [Cell.int .u8 83], [Cell.int .u8 76], [Cell.int .u8 49]] ++ bigF (Int.toNat 8) g).length + Int.toNat 4) : Int))))) ((([[Cell.int .u8 69], [Cell.int .u8 83], [Cell.int .u8 76], [Cell.int .u8 49]] ++ bigF (Int.toNat 8) g) ++ bigF (Int.toNat 4) z1) ++ List.replicate (Int.toNat (IntKind.wrap .i64 (32 - ((([[Cell.int .u8 69], [Cell.int .u8 83], [Cell.int .u8 76], [Cell.int .u8 49]] ++ bigF (Int.toNat 8) g).length + Int.toNat 4) : Int)))) [Cell.int .u8 0]).length)
  (some ([.one (.sl false 5 ((([[Cell.int .u8 69], [Cell.int .u8 83], [Cell.int .u8 76], [Cell.int .u8 49]] ++ bigF (Int.toNat 8) g) ++ bigF (Int.toNat 4) z1) ++ List.replicate (Int.toNat (IntKind.wrap .i64 (32 - ((([[Cell.int .u8 69], [Cell.int .u8 83], [Cell.int .u8 76], [Cell.int .u8 49]] ++ bigF (Int.toNat 8) g).length + Int.toNat 4) : Int)))) [Cell.int .u8 0]))], []))
  none)
  none)
  none)
  none)
  none)
  none)
  none) := by kernel_rfl

theorem e46 (m : Nat) (x : List (List Cell)) : runF E (callOf L51) (m + 1) 46 [.one (.sl false 5 x)] [] =
  (cond ((x.length : Int) != 32)
  (some ([.one (.int .u64 0)], []))
  (cond (inB 12 (x.length + 1))
  (cond (okB (subL x 4 12) && pd ((subL x 4 12).length ≤ 8))
  (cond (okV (numF 0 (subL x 4 12)))
  (cond (!((toBytes (wHdr (numF 0 (subL x 4 12)))) == (toBytes x)))
  (some ([.one (.int .u64 0)], []))
  (some ([.one (.int .u64 (numF 0 (subL x 4 12)))], [])))
  none)
  none)
  none)) := by kernel_rfl

theorem e77 (m : Nat) (g o : Int) (x : List (List Cell)) : runF E (callOf L46) (m + 1) 77 [.one (.int .u64 g), .one (.int .i64 o), .one (.sl false 5 x)] [] =
  let z1 := overL (overL (overL (List.replicate 30016 [Cell.int .u8 0]) (0 + 0) (bigF (Int.toNat 8) g)) (0 + (0 + Int.toNat 8)) (bigF (Int.toNat 4) (IntKind.wrap .u64 o))) (0 + ((0 + Int.toNat 8) + Int.toNat 4)) (bigF (Int.toNat 4) (IntKind.wrap .u64 (x.length : Int)))
  let z2 := Int.toNat ((((0 + Int.toNat 8) + Int.toNat 4) + Int.toNat 4) : Int)
  (cond (okV g && (okSz 8 && okWa 0 0 30016 (List.replicate 30016 [Cell.int .u8 0]) (Int.toNat 8)))
  (cond (okV (IntKind.wrap .u64 o) && (okSz 4 && okWa 0 (0 + Int.toNat 8) 30016 (overL (List.replicate 30016 [Cell.int .u8 0]) (0 + 0) (bigF (Int.toNat 8) g)) (Int.toNat 4)))
  (cond (okV (IntKind.wrap .u64 (x.length : Int)) && (okSz 4 && okWa 0 ((0 + Int.toNat 8) + Int.toNat 4) 30016 (overL (overL (List.replicate 30016 [Cell.int .u8 0]) (0 + 0) (bigF (Int.toNat 8) g)) (0 + (0 + Int.toNat 8)) (bigF (Int.toNat 4) (IntKind.wrap .u64 o))) (Int.toNat 4)))
  (cond (inB ((((0 + Int.toNat 8) + Int.toNat 4) + Int.toNat 4) : Int) 30017)
  (cond (Nat.blt 0 z1.length)
  (cond (Nat.ble ((0 + z2) + (30016 - z2)) z1.length)
  (cond (inB (IntKind.wrap .i64 (((((0 + Int.toNat 8) + Int.toNat 4) + Int.toNat 4) : Int) + ((minN (30016 - z2) x.length) : Int))) 30017)
  (cond (okWb 0 (Int.toNat (IntKind.wrap .i64 (((((0 + Int.toNat 8) + Int.toNat 4) + Int.toNat 4) : Int) + ((minN (30016 - z2) x.length) : Int)))) (overL z1 (0 + z2) (takeN x (minN (30016 - z2) x.length))))
  (some ([.one (.int .u32 (crcS (subL (overL z1 (0 + z2) (takeN x (minN (30016 - z2) x.length))) 0 (0 + (Int.toNat (IntKind.wrap .i64 (((((0 + Int.toNat 8) + Int.toNat 4) + Int.toNat 4) : Int) + ((minN (30016 - z2) x.length) : Int))))))))], []))
  none)
  none)
  none)
  none)
  none)
  none)
  none)
  none) := by kernel_rfl

theorem e63 (m : Nat) (g o : Int) (y : List (List Cell)) : runF E (callOf L77) (m + 1) 63 [.one (.nils), .one (.int .u64 g), .one (.int .i64 o), .one (.sl false 5 y)] [] =
  (cond (okV (IntKind.wrap .u64 (y.length : Int)) && (okSz 4 && okMx (([] : List (List Cell)).length + [[Cell.int .u8 229]].length) (([] : List (List Cell)) ++ [[Cell.int .u8 229]])))
  (cond (Nat.beq ((([] : List (List Cell)) ++ [[Cell.int .u8 229]]).length + Int.toNat 4) ((([] : List (List Cell)) ++ [[Cell.int .u8 229]]) ++ bigF (Int.toNat 4) (IntKind.wrap .u64 (y.length : Int))).length)
  (cond (fits (((([] : List (List Cell)) ++ [[Cell.int .u8 229]]) ++ bigF (Int.toNat 4) (IntKind.wrap .u64 (y.length : Int))).length + y.length))
  (cond (okV g && okRx o y)
  (cond (okV (IntKind.wrap .u64 (wSum g o y)) && (okSz 4 && okMx (((([] : List (List Cell)) ++ [[Cell.int .u8 229]]) ++ bigF (Int.toNat 4) (IntKind.wrap .u64 (y.length : Int))).length + y.length) (((([] : List (List Cell)) ++ [[Cell.int .u8 229]]) ++ bigF (Int.toNat 4) (IntKind.wrap .u64 (y.length : Int))) ++ y)))
  (cond (Nat.beq ((((([] : List (List Cell)) ++ [[Cell.int .u8 229]]) ++ bigF (Int.toNat 4) (IntKind.wrap .u64 (y.length : Int))) ++ y).length + Int.toNat 4) ((((([] : List (List Cell)) ++ [[Cell.int .u8 229]]) ++ bigF (Int.toNat 4) (IntKind.wrap .u64 (y.length : Int))) ++ y) ++ bigF (Int.toNat 4) (IntKind.wrap .u64 (wSum g o y))).length)
  (cond (fits (((((([] : List (List Cell)) ++ [[Cell.int .u8 229]]) ++ bigF (Int.toNat 4) (IntKind.wrap .u64 (y.length : Int))) ++ y) ++ bigF (Int.toNat 4) (IntKind.wrap .u64 (wSum g o y))).length + [[Cell.int .u8 255]].length))
  (some ([.one (.msl 5 0 (((((([] : List (List Cell)) ++ [[Cell.int .u8 229]]) ++ bigF (Int.toNat 4) (IntKind.wrap .u64 (y.length : Int))) ++ y) ++ bigF (Int.toNat 4) (IntKind.wrap .u64 (wSum g o y))).length + [[Cell.int .u8 255]].length))], [.arr 5 (((((([] : List (List Cell)) ++ [[Cell.int .u8 229]]) ++ bigF (Int.toNat 4) (IntKind.wrap .u64 (y.length : Int))) ++ y) ++ bigF (Int.toNat 4) (IntKind.wrap .u64 (wSum g o y))) ++ [[Cell.int .u8 255]])]))
  none)
  none)
  none)
  none)
  none)
  none)
  none) := by kernel_rfl

theorem e63_c1 (m un : Nat) (g o : Int) (y x : List (List Cell)) : runF E (callOf L77) (m + 1) 63 [.one (.msl 5 0 un), .one (.int .u64 g), .one (.int .i64 o), .one (.sl false 5 y)] [.arr 5 x] =
  (cond (Nat.beq un x.length)
  (cond (fits (x.length + [[Cell.int .u8 229]].length))
  (cond (okV (IntKind.wrap .u64 (y.length : Int)) && (okSz 4 && okMx (x.length + [[Cell.int .u8 229]].length) (x ++ [[Cell.int .u8 229]])))
  (cond (Nat.beq ((x ++ [[Cell.int .u8 229]]).length + Int.toNat 4) ((x ++ [[Cell.int .u8 229]]) ++ bigF (Int.toNat 4) (IntKind.wrap .u64 (y.length : Int))).length)
  (cond (fits (((x ++ [[Cell.int .u8 229]]) ++ bigF (Int.toNat 4) (IntKind.wrap .u64 (y.length : Int))).length + y.length))
  (cond (okV g && okRx o y)
  (cond (okV (IntKind.wrap .u64 (wSum g o y)) && (okSz 4 && okMx (((x ++ [[Cell.int .u8 229]]) ++ bigF (Int.toNat 4) (IntKind.wrap .u64 (y.length : Int))).length + y.length) (((x ++ [[Cell.int .u8 229]]) ++ bigF (Int.toNat 4) (IntKind.wrap .u64 (y.length : Int))) ++ y)))
  (cond (Nat.beq ((((x ++ [[Cell.int .u8 229]]) ++ bigF (Int.toNat 4) (IntKind.wrap .u64 (y.length : Int))) ++ y).length + Int.toNat 4) ((((x ++ [[Cell.int .u8 229]]) ++ bigF (Int.toNat 4) (IntKind.wrap .u64 (y.length : Int))) ++ y) ++ bigF (Int.toNat 4) (IntKind.wrap .u64 (wSum g o y))).length)
  (cond (fits (((((x ++ [[Cell.int .u8 229]]) ++ bigF (Int.toNat 4) (IntKind.wrap .u64 (y.length : Int))) ++ y) ++ bigF (Int.toNat 4) (IntKind.wrap .u64 (wSum g o y))).length + [[Cell.int .u8 255]].length))
  (some ([.one (.msl 5 1 (((((x ++ [[Cell.int .u8 229]]) ++ bigF (Int.toNat 4) (IntKind.wrap .u64 (y.length : Int))) ++ y) ++ bigF (Int.toNat 4) (IntKind.wrap .u64 (wSum g o y))).length + [[Cell.int .u8 255]].length))], [.dead, .arr 5 (((((x ++ [[Cell.int .u8 229]]) ++ bigF (Int.toNat 4) (IntKind.wrap .u64 (y.length : Int))) ++ y) ++ bigF (Int.toNat 4) (IntKind.wrap .u64 (wSum g o y))) ++ [[Cell.int .u8 255]])]))
  none)
  none)
  none)
  none)
  none)
  none)
  none)
  none)
  none) := by kernel_rfl

theorem e74 (m : Nat) (x : List (List Cell)) (g o : Int) : runF E (callOf L63) (m + 1) 74 [.one (.sl false 5 x), .one (.int .u64 g), .one (.int .i64 o)] [] =
  let z1 := IntKind.wrap .i64 (numF 0 (subL (dropN x (Int.toNat o)) 1 5))
  let z2 := IntKind.wrap .i64 (5 + z1)
  (cond (inB o (x.length + 1))
  (cond (decide (((dropN x (Int.toNat o)).length : Int) ≤ 10))
  (some ([.one (.sl false 5 ([] : List (List Cell))), .one (.bool false)], []))
  (cond (inB 0 (dropN x (Int.toNat o)).length)
  (cond ((nr (Abs.rowAt (dropN x (Int.toNat o)) 0) 0) != 229)
  (some ([.one (.sl false 5 ([] : List (List Cell))), .one (.bool false)], []))
  (cond (inB 5 ((dropN x (Int.toNat o)).length + 1))
  (cond (okB (subL (dropN x (Int.toNat o)) 1 5) && pd ((subL (dropN x (Int.toNat o)) 1 5).length ≤ 8))
  (cond (decide ((numF 0 (subL (dropN x (Int.toNat o)) 1 5)) < 1))
  (some ([.one (.sl false 5 ([] : List (List Cell))), .one (.bool false)], []))
  (cond (decide ((numF 0 (subL (dropN x (Int.toNat o)) 1 5)) > 30000))
  (some ([.one (.sl false 5 ([] : List (List Cell))), .one (.bool false)], []))
  (cond (decide (z1 > (IntKind.wrap .i64 (((dropN x (Int.toNat o)).length : Int) - 10))))
  (some ([.one (.sl false 5 ([] : List (List Cell))), .one (.bool false)], []))
  (cond (inB z2 ((dropN x (Int.toNat o)).length + 1))
  (cond (inB 5 ((Int.toNat z2) + 1))
  (cond (fits (([] : List (List Cell)).length + (subL (dropN x (Int.toNat o)) 5 (Int.toNat z2)).length))
  (cond (inB (IntKind.wrap .i64 (z2 + 4)) ((dropN x (Int.toNat o)).length + 1))
  (cond (inB z2 ((Int.toNat (IntKind.wrap .i64 (z2 + 4))) + 1))
  (cond (okB (subL (dropN x (Int.toNat o)) (Int.toNat z2) (Int.toNat (IntKind.wrap .i64 (z2 + 4)))) && pd ((subL (dropN x (Int.toNat o)) (Int.toNat z2) (Int.toNat (IntKind.wrap .i64 (z2 + 4)))).length ≤ 8))
  (cond (okV g && okRx o (([] : List (List Cell)) ++ (subL (dropN x (Int.toNat o)) 5 (Int.toNat z2))))
  (cond ((numF 0 (subL (dropN x (Int.toNat o)) (Int.toNat z2) (Int.toNat (IntKind.wrap .i64 (z2 + 4))))) == (IntKind.wrap .u64 (wSum g o (([] : List (List Cell)) ++ (subL (dropN x (Int.toNat o)) 5 (Int.toNat z2))))))
  (cond (inB (IntKind.wrap .i64 (z2 + 4)) (dropN x (Int.toNat o)).length)
  (some ([.one (.sl false 5 (([] : List (List Cell)) ++ (subL (dropN x (Int.toNat o)) 5 (Int.toNat z2)))), .one (.bool ((nr (Abs.rowAt (dropN x (Int.toNat o)) (Int.toNat (IntKind.wrap .i64 (z2 + 4)))) 0) == 255))], []))
  none)
  (some ([.one (.sl false 5 (([] : List (List Cell)) ++ (subL (dropN x (Int.toNat o)) 5 (Int.toNat z2)))), .one (.bool false)], [])))
  none)
  none)
  none)
  none)
  none)
  none)
  none))))
  none)
  none))
  none))
  none) := by kernel_rfl

noncomputable def P52_0 : List AItem := F52.at [.snd, .snd, .snd, .sub, .head]

def M52_0 (t0 : List (List Cell)) (t1 : Int) (t6 : List (List Cell)) (t7 : Int) : St := ⟨[(0, .one (.sl false 5 t0)), (1, .one (.int .u64 t1)), (6, .one (.sl true 22 t6)), (7, .one (.int .i64 t7))], []⟩

theorem e52 (m : Nat) (x : List (List Cell)) (g : Int) : runF E (callOf L74) (m + 1) 52 [.one (.sl false 5 x), .one (.int .u64 g)] [] =
  (goF E (callOf L74) F52 0 m P52_0 (M52_0 x g ([] : List (List Cell)) 0)) := by kernel_rfl

theorem e52_0 (m : Nat) (t0 : List (List Cell)) (t1 : Int) (t6 : List (List Cell)) (t7 : Int) : goF E (callOf L74) F52 0 (m + 1) P52_0 (M52_0 t0 t1 t6 t7) =
  (cond (okV t1 && (okBl t0 && (pd ((0 : Int) ≤ t7) && pd (t7 ≤ (t0.length : Int)))))
  (cond (!(recB t1 t7 (t0.drop (Int.toNat t7))).2)
  (some ([.one (.sl true 22 t6), .one (.int .i64 t7)], []))
  (cond (fits (t6.length + [[Cell.slice 5 (recB t1 t7 (t0.drop (Int.toNat t7))).1]].length))
  (goF E (callOf L74) F52 0 m P52_0 (M52_0 t0 t1 (t6 ++ [[Cell.slice 5 (recB t1 t7 (t0.drop (Int.toNat t7))).1]]) (IntKind.wrap .i64 (t7 + (IntKind.wrap .i64 (((recB t1 t7 (t0.drop (Int.toNat t7))).1.length : Int) + 10))))))
  none))
  none) := by kernel_rfl

noncomputable def P49_0 : List AItem := F49.at [.snd, .fst, .snd, .sub, .head]

def M49_0 (t5 : List (List Cell)) (t6 : Int) (t7 : Int) : St := ⟨[(5, .one (.sl false 5 t5)), (6, .one (.int .i64 t6)), (7, .one (.int .i64 t7))], []⟩

theorem e49 (m : Nat) (x : List (List Cell)) : runF E (callOf L52) (m + 1) 49 [.one (.sl false 5 x)] [] =
  (goF E (callOf L52) F49 0 m P49_0 (M49_0 x (x.length : Int) 0)) := by kernel_rfl

theorem e49_0 (m : Nat) (t5 : List (List Cell)) (t6 t7 : Int) : goF E (callOf L52) F49 0 (m + 1) P49_0 (M49_0 t5 t6 t7) =
  (cond (decide (t7 < t6))
  (cond (inB t7 t5.length)
  (cond ((nr (Abs.rowAt t5 (Int.toNat t7)) 0) != 0)
  (some ([.one (.bool false)], []))
  (goF E (callOf L52) F49 0 m P49_0 (M49_0 t5 t6 (IntKind.wrap .i64 (t7 + 1)))))
  none)
  (some ([.one (.bool true)], []))) := by kernel_rfl

theorem e12 (m : Nat) (n : Int) : runF E (callOf L49) (m + 1) 12 [.one (.int .i64 n)] [] =
  let z1 := IntKind.wrap .i64 ((if (if 2048 < n then 2048 else n) > 1 then (if 2048 < n then 2048 else n) else 1) * 32)
  let z2 := List.replicate (Int.toNat z1) [Cell.int .u8 0]
  let z3 := Nat.blt 0 (Int.toNat z1)
  (sameO (sameO (cond (okMake z1 z1)
  (cond z3
  (cond (okMake z1 z1)
  (cond z3
  (some ([.one (.ptr 0 0)], [.var [.msl 5 1 (Int.toNat z1), .msl 5 2 (Int.toNat z1), .sl true 85 ([] : List (List Cell)), .bool false, .int .i64 0, .bool false], .arr 5 z2, .arr 5 z2]))
  none)
  none)
  none)
  none)
  (sameO (cond (okMake z1 z1)
  (cond z3
  (cond (okMake z1 z1)
  (cond z3
  (some ([.one (.ptr 0 0)], [.var [.msl 5 1 (Int.toNat z1), .msl 5 2 (Int.toNat z1), .sl true 85 ([] : List (List Cell)), .bool false, .int .i64 0, .bool false], .arr 5 z2, .arr 5 z2]))
  none)
  none)
  none)
  none)
  (cond (okMake z1 z1)
  (cond z3
  (cond (okMake z1 z1)
  (cond z3
  (some ([.one (.ptr 0 0)], [.var [.msl 5 1 (Int.toNat z1), .msl 5 2 (Int.toNat z1), .sl true 85 ([] : List (List Cell)), .bool false, .int .i64 0, .bool false], .arr 5 z2, .arr 5 z2]))
  none)
  none)
  none)
  none)))
  (sameO (sameO (cond (okMake z1 z1)
  (cond z3
  (cond (okMake z1 z1)
  (cond z3
  (some ([.one (.ptr 0 0)], [.var [.msl 5 1 (Int.toNat z1), .msl 5 2 (Int.toNat z1), .sl true 85 ([] : List (List Cell)), .bool false, .int .i64 0, .bool false], .arr 5 z2, .arr 5 z2]))
  none)
  none)
  none)
  none)
  (cond (okMake z1 z1)
  (cond z3
  (cond (okMake z1 z1)
  (cond z3
  (some ([.one (.ptr 0 0)], [.var [.msl 5 1 (Int.toNat z1), .msl 5 2 (Int.toNat z1), .sl true 85 ([] : List (List Cell)), .bool false, .int .i64 0, .bool false], .arr 5 z2, .arr 5 z2]))
  none)
  none)
  none)
  none))
  (cond (okMake z1 z1)
  (cond z3
  (cond (okMake z1 z1)
  (cond z3
  (some ([.one (.ptr 0 0)], [.var [.msl 5 1 (Int.toNat z1), .msl 5 2 (Int.toNat z1), .sl true 85 ([] : List (List Cell)), .bool false, .int .i64 0, .bool false], .arr 5 z2, .arr 5 z2]))
  none)
  none)
  none)
  none))) := by kernel_rfl

theorem e32 (m un cn : Nat) (qu : List (List Cell)) (am : Bool) (lf : Int) (dn : Bool) (du cu : List (List Cell)) : runF E (callOf L12) (m + 1) 32 [.one (.ptr 0 0)] [.var [.msl 5 1 un, .msl 5 2 cn, .sl true 85 qu, .bool am, .int .i64 lf, .bool dn], .arr 5 du, .arr 5 cu] =
  (some ([.one (.int .i64 (IntKind.wrap .i64 (Int.tdiv (un : Int) 32)))], [.var [.msl 5 1 un, .msl 5 2 cn, .sl true 85 qu, .bool am, .int .i64 lf, .bool dn], .arr 5 du, .arr 5 cu])) := by kernel_rfl

theorem e32_c1 (m : Nat)  : runF E (callOf L12) (m + 1) 32 [.one (.nilp)] [] =
  (some ([.one (.int .i64 0)], [])) := by kernel_rfl

theorem e38 (m un cn : Nat) (qu : List (List Cell)) (am : Bool) (lf : Int) (dn : Bool) (du cu : List (List Cell)) : runF E (callOf L32) (m + 1) 38 [.one (.ptr 0 0)] [.var [.msl 5 1 un, .msl 5 2 cn, .sl true 85 qu, .bool am, .int .i64 lf, .bool dn], .arr 5 du, .arr 5 cu] =
  (some ([.one (.bool dn)], [.var [.msl 5 1 un, .msl 5 2 cn, .sl true 85 qu, .bool am, .int .i64 lf, .bool dn], .arr 5 du, .arr 5 cu])) := by kernel_rfl

theorem e44 (m : Nat) (o k : Int) (un cn : Nat) (qu : List (List Cell)) (am : Bool) (lf : Int) (dn : Bool) (du cu : List (List Cell)) : runF E (callOf L38) (m + 1) 44 [.one (.ptr 0 0), .one (.int .i64 o), .one (.int .i64 k)] [.var [.msl 5 1 un, .msl 5 2 cn, .sl true 85 qu, .bool am, .int .i64 lf, .bool dn], .arr 5 du, .arr 5 cu] =
  (cond dn
  (some ([.one (.int .i64 15)], [.var [.msl 5 1 un, .msl 5 2 cn, .sl true 85 qu, .bool am, .int .i64 lf, .bool dn], .arr 5 du, .arr 5 cu]))
  (cond (decide (o < 0))
  (some ([.one (.int .i64 9)], [.var [.msl 5 1 un, .msl 5 2 cn, .sl true 85 qu, .bool am, .int .i64 lf, .bool dn], .arr 5 du, .arr 5 cu]))
  (cond (decide (k < 0))
  (some ([.one (.int .i64 9)], [.var [.msl 5 1 un, .msl 5 2 cn, .sl true 85 qu, .bool am, .int .i64 lf, .bool dn], .arr 5 du, .arr 5 cu]))
  (cond (decide (o > (cn : Int)))
  (some ([.one (.int .i64 9)], [.var [.msl 5 1 un, .msl 5 2 cn, .sl true 85 qu, .bool am, .int .i64 lf, .bool dn], .arr 5 du, .arr 5 cu]))
  (cond (decide (k > (IntKind.wrap .i64 ((cn : Int) - o))))
  (some ([.one (.int .i64 9)], [.var [.msl 5 1 un, .msl 5 2 cn, .sl true 85 qu, .bool am, .int .i64 lf, .bool dn], .arr 5 du, .arr 5 cu]))
  (some ([.one (.int .i64 0)], [.var [.msl 5 1 un, .msl 5 2 cn, .sl true 85 qu, .bool am, .int .i64 lf, .bool dn], .arr 5 du, .arr 5 cu]))))))) := by kernel_rfl

theorem e35 (m : Nat) (o k : Int) (un cn : Nat) (qu : List (List Cell)) (am : Bool) (lf : Int) (dn : Bool) (du cu : List (List Cell)) : runF E (callOf L44) (m + 1) 35 [.one (.ptr 0 0), .one (.int .i64 o), .one (.int .i64 k)] [.var [.msl 5 1 un, .msl 5 2 cn, .sl true 85 qu, .bool am, .int .i64 lf, .bool dn], .arr 5 du, .arr 5 cu] =
  (cond (okDk un cn (Dk.mk du cu qu am lf dn))
  (cond ((Dk.chk (Dk.mk du cu qu am lf dn) o k) != 0)
  (some ([.one (.sl false 5 ([] : List (List Cell))), .one (.int .i64 (Dk.chk (Dk.mk du cu qu am lf dn) o k))], [.var [.msl 5 1 un, .msl 5 2 cn, .sl true 85 qu, .bool am, .int .i64 lf, .bool dn], .arr 5 du, .arr 5 cu]))
  (cond (Nat.blt 0 cn)
  (cond (inB (IntKind.wrap .i64 (o + k)) (cn + 1))
  (cond (inB o ((Int.toNat (IntKind.wrap .i64 (o + k))) + 1))
  (cond (Nat.ble ((0 + (Int.toNat o)) + ((Int.toNat (IntKind.wrap .i64 (o + k))) - (Int.toNat o))) cu.length)
  (cond (fits (([] : List (List Cell)).length + (subL cu (0 + (Int.toNat o)) ((0 + (Int.toNat o)) + ((Int.toNat (IntKind.wrap .i64 (o + k))) - (Int.toNat o)))).length))
  (some ([.one (.sl false 5 (([] : List (List Cell)) ++ (subL cu (0 + (Int.toNat o)) ((0 + (Int.toNat o)) + ((Int.toNat (IntKind.wrap .i64 (o + k))) - (Int.toNat o)))))), .one (.int .i64 0)], [.var [.msl 5 1 un, .msl 5 2 cn, .sl true 85 qu, .bool am, .int .i64 lf, .bool dn], .arr 5 du, .arr 5 cu]))
  none)
  none)
  none)
  none)
  none))
  none) := by kernel_rfl

noncomputable def P36_0 : List AItem := F36.at [.snd, .snd, .fst, .sub, .head]

def M36_0 (t1 : Int) (t2 : List (List Cell)) (b0 : Nat) (b0_1 : Nat) (b0_2 : List (List Cell)) (b0_3 : Bool) (b0_4 : Int) (b0_5 : Bool) (b1 : List (List Cell)) (b2 : List (List Cell)) : St := ⟨[(0, .one (.ptr 0 0)), (1, .one (.int .i64 t1)), (2, .one (.sl false 5 t2))], [.var [.msl 5 1 b0, .msl 5 2 b0_1, .sl true 85 b0_2, .bool b0_3, .int .i64 b0_4, .bool b0_5], .arr 5 b1, .arr 5 b2]⟩

theorem e36 (m : Nat) (o : Int) (x : List (List Cell)) (un cn : Nat) (qu : List (List Cell)) (am : Bool) (lf : Int) (dn : Bool) (du cu : List (List Cell)) : runF E (callOf L35) (m + 1) 36 [.one (.ptr 0 0), .one (.int .i64 o), .one (.sl false 5 x)] [.var [.msl 5 1 un, .msl 5 2 cn, .sl true 85 qu, .bool am, .int .i64 lf, .bool dn], .arr 5 du, .arr 5 cu] =
  (cond (okDk un cn (Dk.mk du cu qu am lf dn))
  (cond ((Dk.chk (Dk.mk du cu qu am lf dn) o (x.length : Int)) != 0)
  (some ([.one (.int .i64 (Dk.chk (Dk.mk du cu qu am lf dn) o (x.length : Int)))], [.var [.msl 5 1 un, .msl 5 2 cn, .sl true 85 qu, .bool am, .int .i64 lf, .bool dn], .arr 5 du, .arr 5 cu]))
  (goF E (callOf L35) F36 3 m P36_0 (M36_0 o x un cn qu am lf dn du cu)))
  none) := by kernel_rfl

theorem e36_0 (m : Nat) (t1 : Int) (t2 : List (List Cell)) (b0 b0_1 : Nat) (b0_2 : List (List Cell)) (b0_3 : Bool) (b0_4 : Int) (b0_5 : Bool) (b1 b2 : List (List Cell)) : goF E (callOf L35) F36 3 (m + 1) P36_0 (M36_0 t1 t2 b0 b0_1 b0_2 b0_3 b0_4 b0_5 b1 b2) =
  let z1 := IntKind.wrap .i64 (32 - (Int.tmod t1 32))
  let z2 := IntKind.wrap .i64 (t1 + (if z1 < (t2.length : Int) then z1 else (t2.length : Int)))
  let z3 := Int.toNat (if z1 < (t2.length : Int) then z1 else (t2.length : Int))
  let z4 := fits (b0_2.length + [[Cell.int .i64 t1, Cell.slice 5 (([] : List (List Cell)) ++ (takeN t2 z3))]].length)
  let z5 := overL b2 (0 + (Int.toNat t1)) (takeN t2 (minN ((Int.toNat z2) - (Int.toNat t1)) t2.length))
  let z6 := Nat.ble ((0 + (Int.toNat t1)) + ((Int.toNat z2) - (Int.toNat t1))) b2.length
  (cond (decide ((t2.length : Int) > 0))
  (cond b0_3
  (cond (b0_4 == 0)
  (some ([.one (.int .i64 15)], [.var [.msl 5 1 b0, .msl 5 2 b0_1, .sl true 85 b0_2, .bool b0_3, .int .i64 b0_4, .bool true], .arr 5 b1, .arr 5 b2]))
  (cond b0_3
  (cond (Nat.blt 0 b0_1)
  (cond (inB z2 (b0_1 + 1))
  (cond (decide (z2 = z2))
  (cond (inB t1 ((Int.toNat z2) + 1))
  (cond (Nat.blt 0 b2.length)
  (cond z6
  (cond (inB (if z1 < (t2.length : Int) then z1 else (t2.length : Int)) (t2.length + 1))
  (cond (fits (([] : List (List Cell)).length + (takeN t2 z3).length))
  (cond z4
  (cond (inB (if z1 < (t2.length : Int) then z1 else (t2.length : Int)) (t2.length + 1))
  (goF E (callOf L35) F36 3 m P36_0 (M36_0 z2 (dropN t2 z3) b0 b0_1 (b0_2 ++ [[Cell.int .i64 t1, Cell.slice 5 (([] : List (List Cell)) ++ (takeN t2 z3))]]) b0_3 (IntKind.wrap .i64 (b0_4 - 1)) b0_5 b1 z5))
  none)
  none)
  none)
  none)
  none)
  none)
  none)
  none)
  none)
  none)
  (cond (Nat.blt 0 b0_1)
  (cond (inB z2 (b0_1 + 1))
  (cond (decide (z2 = z2))
  (cond (inB t1 ((Int.toNat z2) + 1))
  (cond (Nat.blt 0 b2.length)
  (cond z6
  (cond (inB (if z1 < (t2.length : Int) then z1 else (t2.length : Int)) (t2.length + 1))
  (cond (fits (([] : List (List Cell)).length + (takeN t2 z3).length))
  (cond z4
  (cond (inB (if z1 < (t2.length : Int) then z1 else (t2.length : Int)) (t2.length + 1))
  (goF E (callOf L35) F36 3 m P36_0 (M36_0 z2 (dropN t2 z3) b0 b0_1 (b0_2 ++ [[Cell.int .i64 t1, Cell.slice 5 (([] : List (List Cell)) ++ (takeN t2 z3))]]) b0_3 b0_4 b0_5 b1 z5))
  none)
  none)
  none)
  none)
  none)
  none)
  none)
  none)
  none)
  none)))
  (cond b0_3
  (cond (Nat.blt 0 b0_1)
  (cond (inB z2 (b0_1 + 1))
  (cond (decide (z2 = z2))
  (cond (inB t1 ((Int.toNat z2) + 1))
  (cond (Nat.blt 0 b2.length)
  (cond z6
  (cond (inB (if z1 < (t2.length : Int) then z1 else (t2.length : Int)) (t2.length + 1))
  (cond (fits (([] : List (List Cell)).length + (takeN t2 z3).length))
  (cond z4
  (cond (inB (if z1 < (t2.length : Int) then z1 else (t2.length : Int)) (t2.length + 1))
  (goF E (callOf L35) F36 3 m P36_0 (M36_0 z2 (dropN t2 z3) b0 b0_1 (b0_2 ++ [[Cell.int .i64 t1, Cell.slice 5 (([] : List (List Cell)) ++ (takeN t2 z3))]]) b0_3 (IntKind.wrap .i64 (b0_4 - 1)) b0_5 b1 z5))
  none)
  none)
  none)
  none)
  none)
  none)
  none)
  none)
  none)
  none)
  (cond (Nat.blt 0 b0_1)
  (cond (inB z2 (b0_1 + 1))
  (cond (decide (z2 = z2))
  (cond (inB t1 ((Int.toNat z2) + 1))
  (cond (Nat.blt 0 b2.length)
  (cond z6
  (cond (inB (if z1 < (t2.length : Int) then z1 else (t2.length : Int)) (t2.length + 1))
  (cond (fits (([] : List (List Cell)).length + (takeN t2 z3).length))
  (cond z4
  (cond (inB (if z1 < (t2.length : Int) then z1 else (t2.length : Int)) (t2.length + 1))
  (goF E (callOf L35) F36 3 m P36_0 (M36_0 z2 (dropN t2 z3) b0 b0_1 (b0_2 ++ [[Cell.int .i64 t1, Cell.slice 5 (([] : List (List Cell)) ++ (takeN t2 z3))]]) b0_3 b0_4 b0_5 b1 z5))
  none)
  none)
  none)
  none)
  none)
  none)
  none)
  none)
  none)
  none)))
  (some ([.one (.int .i64 0)], [.var [.msl 5 1 b0, .msl 5 2 b0_1, .sl true 85 b0_2, .bool b0_3, .int .i64 b0_4, .bool b0_5], .arr 5 b1, .arr 5 b2]))) := by kernel_rfl

noncomputable def P20_0 : List AItem := F20.at [.snd, .snd, .fst, .snd, .sub, .head]

def M20_0 (t14 : List (List Cell)) (t15 : Int) (t16 : Int) (b0 : Nat) (b0_1 : Nat) (b0_2 : List (List Cell)) (b0_3 : Bool) (b0_4 : Int) (b0_5 : Bool) (b1 : List (List Cell)) (b2 : List (List Cell)) : St := ⟨[(0, .one (.ptr 0 0)), (14, .one (.sl false 85 t14)), (15, .one (.int .i64 t15)), (16, .one (.int .i64 t16))], [.var [.msl 5 1 b0, .msl 5 2 b0_1, .sl true 85 b0_2, .bool b0_3, .int .i64 b0_4, .bool b0_5], .arr 5 b1, .arr 5 b2]⟩

theorem e20 (m un cn : Nat) (qu : List (List Cell)) (am : Bool) (lf : Int) (dn : Bool) (du cu : List (List Cell)) : runF E (callOf L36) (m + 1) 20 [.one (.ptr 0 0)] [.var [.msl 5 1 un, .msl 5 2 cn, .sl true 85 qu, .bool am, .int .i64 lf, .bool dn], .arr 5 du, .arr 5 cu] =
  (cond (okDk un cn (Dk.mk du cu qu am lf dn))
  (cond ((Dk.chk (Dk.mk du cu qu am lf dn) 0 0) != 0)
  (some ([.one (.int .i64 (Dk.chk (Dk.mk du cu qu am lf dn) 0 0))], [.var [.msl 5 1 un, .msl 5 2 cn, .sl true 85 qu, .bool am, .int .i64 lf, .bool dn], .arr 5 du, .arr 5 cu]))
  (goF E (callOf L36) F20 3 m P20_0 (M20_0 qu (qu.length : Int) 0 un cn qu am lf dn du cu)))
  none) := by kernel_rfl

theorem e20_0 (m : Nat) (t14 : List (List Cell)) (t15 t16 : Int) (b0 b0_1 : Nat) (b0_2 : List (List Cell)) (b0_3 : Bool) (b0_4 : Int) (b0_5 : Bool) (b1 b2 : List (List Cell)) : goF E (callOf L36) F20 3 (m + 1) P20_0 (M20_0 t14 t15 t16 b0 b0_1 b0_2 b0_3 b0_4 b0_5 b1 b2) =
  (cond (decide (t16 < t15))
  (cond (inB t16 t14.length)
  (cond (Nat.blt 0 b0)
  (cond (inB (nr (Abs.rowAt t14 (Int.toNat t16)) 0) (b0 + 1))
  (cond (Nat.blt 0 b1.length)
  (cond (Nat.ble ((0 + (Int.toNat (nr (Abs.rowAt t14 (Int.toNat t16)) 0))) + (b0 - (Int.toNat (nr (Abs.rowAt t14 (Int.toNat t16)) 0)))) b1.length)
  (goF E (callOf L36) F20 3 m P20_0 (M20_0 t14 t15 (IntKind.wrap .i64 (t16 + 1)) b0 b0_1 b0_2 b0_3 b0_4 b0_5 (overL b1 (0 + (Int.toNat (nr (Abs.rowAt t14 (Int.toNat t16)) 0))) (takeN (nl (Abs.rowAt t14 (Int.toNat t16)) 1) (minN (b0 - (Int.toNat (nr (Abs.rowAt t14 (Int.toNat t16)) 0))) (nl (Abs.rowAt t14 (Int.toNat t16)) 1).length))) b2))
  none)
  none)
  none)
  none)
  none)
  (some ([.one (.int .i64 0)], [.var [.msl 5 1 b0, .msl 5 2 b0_1, .sl true 85 ([] : List (List Cell)), .bool b0_3, .int .i64 b0_4, .bool b0_5], .arr 5 b1, .arr 5 b2]))) := by kernel_rfl

theorem e39 (m : Nat) (k : Int) (un cn : Nat) (qu : List (List Cell)) (am : Bool) (lf : Int) (dn : Bool) (du cu : List (List Cell)) : runF E (callOf L20) (m + 1) 39 [.one (.ptr 0 0), .one (.int .i64 k)] [.var [.msl 5 1 un, .msl 5 2 cn, .sl true 85 qu, .bool am, .int .i64 lf, .bool dn], .arr 5 du, .arr 5 cu] =
  (cond dn
  (some ([], [.var [.msl 5 1 un, .msl 5 2 cn, .sl true 85 qu, .bool am, .int .i64 lf, .bool dn], .arr 5 du, .arr 5 cu]))
  (some ([], [.var [.msl 5 1 un, .msl 5 2 cn, .sl true 85 qu, .bool true, .int .i64 (if 0 > k then 0 else k), .bool dn], .arr 5 du, .arr 5 cu]))) := by kernel_rfl

noncomputable def P40_0 : List AItem := F40.at [.snd, .snd, .snd, .fst, .snd, .sub, .head]

def M40_0 (t4 : Int) (t24 : List (List Cell)) (t25 : Int) (t26 : Int) (b0 : Nat) (b0_1 : Nat) (b0_2 : List (List Cell)) (b0_3 : Bool) (b0_4 : Int) (b0_5 : Bool) (b1 : List (List Cell)) (b2 : List (List Cell)) (b3 : Int) (b3_1 : Int) : St := ⟨[(0, .one (.ptr 0 0)), (3, .one (.ptr 3 0)), (4, .one (.int .i64 t4)), (24, .one (.sl false 85 t24)), (25, .one (.int .i64 t25)), (26, .one (.int .i64 t26))], [.var [.msl 5 1 b0, .msl 5 2 b0_1, .sl true 85 b0_2, .bool b0_3, .int .i64 b0_4, .bool b0_5], .arr 5 b1, .arr 5 b2, .var [.int .i64 b3, .int .i64 b3_1]]⟩

theorem e40 (m : Nat) (k t : Int) (un cn : Nat) (qu : List (List Cell)) (am : Bool) (lf : Int) (dn : Bool) (du cu : List (List Cell)) : runF E (callOf L39) (m + 1) 40 [.one (.ptr 0 0), .agg [.int .i64 k, .int .i64 t]] [.var [.msl 5 1 un, .msl 5 2 cn, .sl true 85 qu, .bool am, .int .i64 lf, .bool dn], .arr 5 du, .arr 5 cu] =
  (cond (inB (if (if (qu.length : Int) < k then (qu.length : Int) else k) > 0 then (if (qu.length : Int) < k then (qu.length : Int) else k) else 0) (qu.length + 1))
  (goF E (callOf L39) F40 3 m P40_0 (M40_0 (if (if (qu.length : Int) < k then (qu.length : Int) else k) > 0 then (if (qu.length : Int) < k then (qu.length : Int) else k) else 0) (takeN qu (Int.toNat (if (if (qu.length : Int) < k then (qu.length : Int) else k) > 0 then (if (qu.length : Int) < k then (qu.length : Int) else k) else 0))) ((takeN qu (Int.toNat (if (if (qu.length : Int) < k then (qu.length : Int) else k) > 0 then (if (qu.length : Int) < k then (qu.length : Int) else k) else 0))).length : Int) 0 un cn qu am lf dn du cu k t))
  none) := by kernel_rfl

theorem e40_0 (m : Nat) (t4 : Int) (t24 : List (List Cell)) (t25 t26 : Int) (b0 b0_1 : Nat) (b0_2 : List (List Cell)) (b0_3 : Bool) (b0_4 : Int) (b0_5 : Bool) (b1 b2 : List (List Cell)) (b3 b3_1 : Int) : goF E (callOf L39) F40 3 (m + 1) P40_0 (M40_0 t4 t24 t25 t26 b0 b0_1 b0_2 b0_3 b0_4 b0_5 b1 b2 b3 b3_1) =
  let z1 := nl (Abs.rowAt b0_2 (Int.toNat t4)) 1
  let z2 := takeN z1 (Int.toNat (if (if (z1.length : Int) < b3_1 then (z1.length : Int) else b3_1) > 0 then (if (z1.length : Int) < b3_1 then (z1.length : Int) else b3_1) else 0))
  let z3 := Int.toNat (nr (Abs.rowAt b0_2 (Int.toNat t4)) 0)
  (cond (decide (t26 < t25))
  (cond (inB t26 t24.length)
  (cond (Nat.blt 0 b0)
  (cond (inB (nr (Abs.rowAt t24 (Int.toNat t26)) 0) (b0 + 1))
  (cond (Nat.blt 0 b1.length)
  (cond (Nat.ble ((0 + (Int.toNat (nr (Abs.rowAt t24 (Int.toNat t26)) 0))) + (b0 - (Int.toNat (nr (Abs.rowAt t24 (Int.toNat t26)) 0)))) b1.length)
  (goF E (callOf L39) F40 3 m P40_0 (M40_0 t4 t24 t25 (IntKind.wrap .i64 (t26 + 1)) b0 b0_1 b0_2 b0_3 b0_4 b0_5 (overL b1 (0 + (Int.toNat (nr (Abs.rowAt t24 (Int.toNat t26)) 0))) (takeN (nl (Abs.rowAt t24 (Int.toNat t26)) 1) (minN (b0 - (Int.toNat (nr (Abs.rowAt t24 (Int.toNat t26)) 0))) (nl (Abs.rowAt t24 (Int.toNat t26)) 1).length))) b2 b3 b3_1))
  none)
  none)
  none)
  none)
  none)
  (cond (decide (t4 < (b0_2.length : Int)))
  (cond (inB t4 b0_2.length)
  (cond (Nat.blt 0 b0)
  (cond (inB (nr (Abs.rowAt b0_2 (Int.toNat t4)) 0) (b0 + 1))
  (cond (inB (if (if (z1.length : Int) < b3_1 then (z1.length : Int) else b3_1) > 0 then (if (z1.length : Int) < b3_1 then (z1.length : Int) else b3_1) else 0) (z1.length + 1))
  (cond (Nat.blt 0 b1.length)
  (cond (Nat.ble ((0 + z3) + (b0 - z3)) b1.length)
  (cond (Nat.beq b0 (overL b1 (0 + z3) (takeN z2 (minN (b0 - z3) z2.length))).length)
  (cond (Nat.blt 0 b0_1)
  (cond (Nat.blt 0 b2.length)
  (cond (Nat.ble (0 + b0_1) b2.length)
  (some ([], [.var [.msl 5 1 b0, .msl 5 2 b0_1, .sl true 85 ([] : List (List Cell)), .bool false, .int .i64 0, .bool false], .arr 5 (overL b1 (0 + z3) (takeN z2 (minN (b0 - z3) z2.length))), .arr 5 (overL b2 0 (takeN (overL b1 (0 + z3) (takeN z2 (minN (b0 - z3) z2.length))) (minN b0_1 (overL b1 (0 + z3) (takeN z2 (minN (b0 - z3) z2.length))).length)))]))
  none)
  none)
  none)
  none)
  none)
  none)
  none)
  none)
  none)
  none)
  (cond (Nat.beq b0 b1.length)
  (cond (Nat.blt 0 b0_1)
  (cond (Nat.blt 0 b2.length)
  (cond (Nat.ble (0 + b0_1) b2.length)
  (some ([], [.var [.msl 5 1 b0, .msl 5 2 b0_1, .sl true 85 ([] : List (List Cell)), .bool false, .int .i64 0, .bool false], .arr 5 b1, .arr 5 (overL b2 0 (takeN b1 (minN b0_1 b1.length)))]))
  none)
  none)
  none)
  none))) := by kernel_rfl

theorem e24 (m un cn : Nat) (qu : List (List Cell)) (am : Bool) (lf : Int) (dn : Bool) (du cu : List (List Cell)) : runF E (callOf L40) (m + 1) 24 [.one (.ptr 0 0)] [.var [.msl 5 1 un, .msl 5 2 cn, .sl true 85 qu, .bool am, .int .i64 lf, .bool dn], .arr 5 du, .arr 5 cu] =
  (cond (okDk un cn (Dk.mk du cu qu am lf dn))
  (cond (okDk un cn (Dk.mk du cu qu am lf dn))
  (some ([.one (.str (toBytes (Dk.rd (Dk.mk du cu qu am lf dn) 0 (IntKind.wrap .i64 ((secs du) * 32)))))], [.var [.msl 5 1 un, .msl 5 2 cn, .sl true 85 qu, .bool am, .int .i64 lf, .bool dn], .arr 5 du, .arr 5 cu]))
  none)
  none) := by kernel_rfl

theorem e70 (m un cn : Nat) (qu : List (List Cell)) (am : Bool) (lf : Int) (dn : Bool) (du cu : List (List Cell)) : runF E (callOf L24) (m + 1) 70 [.one (.ptr 0 0)] [.var [.msl 5 1 un, .msl 5 2 cn, .sl true 85 qu, .bool am, .int .i64 lf, .bool dn], .arr 5 du, .arr 5 cu] =
  (cond (okDk un cn (Dk.mk du cu qu am lf dn))
  (some ([.one (.int .i64 (IntKind.wrap .i64 ((IntKind.wrap .i64 (Int.tdiv (secs du) 2)) * 32)))], [.var [.msl 5 1 un, .msl 5 2 cn, .sl true 85 qu, .bool am, .int .i64 lf, .bool dn], .arr 5 du, .arr 5 cu]))
  none) := by kernel_rfl

theorem e45 (m : Nat) (s ac ge : Int) (rc : List (List Cell)) (fi : Int) (fa : Bool) (un cn : Nat) (qu : List (List Cell)) (am : Bool) (lf : Int) (dn : Bool) (du cu : List (List Cell)) : runF E (callOf L70) (m + 1) 45 [.one (.ptr 0 0), .one (.int .i64 s)] [.var [.ptr 1 0, .int .i64 ac, .int .u64 ge, .sl true 22 rc, .int .i64 fi, .bool fa], .var [.msl 5 2 un, .msl 5 3 cn, .sl true 85 qu, .bool am, .int .i64 lf, .bool dn], .arr 5 du, .arr 5 cu] =
  (cond (okDk un cn (Dk.mk du cu qu am lf dn))
  (some ([.one (.int .i64 (IntKind.wrap .i64 (s * (Dk.half (Dk.mk du cu qu am lf dn)))))], [.var [.ptr 1 0, .int .i64 ac, .int .u64 ge, .sl true 22 rc, .int .i64 fi, .bool fa], .var [.msl 5 2 un, .msl 5 3 cn, .sl true 85 qu, .bool am, .int .i64 lf, .bool dn], .arr 5 du, .arr 5 cu]))
  none) := by kernel_rfl

theorem e47 (m : Nat) (s ac ge : Int) (rc : List (List Cell)) (fi : Int) (fa : Bool) (un cn : Nat) (qu : List (List Cell)) (am : Bool) (lf : Int) (dn : Bool) (du cu : List (List Cell)) : runF E (callOf L45) (m + 1) 47 [.one (.ptr 0 0), .one (.int .i64 s)] [.var [.ptr 1 0, .int .i64 ac, .int .u64 ge, .sl true 22 rc, .int .i64 fi, .bool fa], .var [.msl 5 2 un, .msl 5 3 cn, .sl true 85 qu, .bool am, .int .i64 lf, .bool dn], .arr 5 du, .arr 5 cu] =
  (cond (okDk un cn (Dk.mk du cu qu am lf dn) && okSeg s)
  (some ([.one (.int .i64 (IntKind.wrap .i64 ((s * Dk.half (Dk.mk du cu qu am lf dn)) + 32)))], [.var [.ptr 1 0, .int .i64 ac, .int .u64 ge, .sl true 22 rc, .int .i64 fi, .bool fa], .var [.msl 5 2 un, .msl 5 3 cn, .sl true 85 qu, .bool am, .int .i64 lf, .bool dn], .arr 5 du, .arr 5 cu]))
  none) := by kernel_rfl

theorem e48 (m : Nat) (ac ge : Int) (rc : List (List Cell)) (fi : Int) (fa : Bool) (un cn : Nat) (qu : List (List Cell)) (am : Bool) (lf : Int) (dn : Bool) (du cu : List (List Cell)) : runF E (callOf L47) (m + 1) 48 [.one (.ptr 0 0)] [.var [.ptr 1 0, .int .i64 ac, .int .u64 ge, .sl true 22 rc, .int .i64 fi, .bool fa], .var [.msl 5 2 un, .msl 5 3 cn, .sl true 85 qu, .bool am, .int .i64 lf, .bool dn], .arr 5 du, .arr 5 cu] =
  (cond (okDk un cn (Dk.mk du cu qu am lf dn))
  (some ([.one (.int .i64 (IntKind.wrap .i64 ((Dk.half (Dk.mk du cu qu am lf dn)) - 32)))], [.var [.ptr 1 0, .int .i64 ac, .int .u64 ge, .sl true 22 rc, .int .i64 fi, .bool fa], .var [.msl 5 2 un, .msl 5 3 cn, .sl true 85 qu, .bool am, .int .i64 lf, .bool dn], .arr 5 du, .arr 5 cu]))
  none) := by kernel_rfl

theorem e50 (m : Nat) (o : Int) (x : List (List Cell)) (ac ge : Int) (rc : List (List Cell)) (fi : Int) (fa : Bool) (un cn : Nat) (qu : List (List Cell)) (am : Bool) (lf : Int) (dn : Bool) (du cu : List (List Cell)) : runF E (callOf L48) (m + 1) 50 [.one (.ptr 0 0), .one (.int .i64 o), .one (.sl false 5 x)] [.var [.ptr 1 0, .int .i64 ac, .int .u64 ge, .sl true 22 rc, .int .i64 fi, .bool fa], .var [.msl 5 2 un, .msl 5 3 cn, .sl true 85 qu, .bool am, .int .i64 lf, .bool dn], .arr 5 du, .arr 5 cu] =
  let z1 := Dk.write (Dk.mk du cu qu am lf dn) o x
  (cond (okDk un cn (Dk.mk du cu qu am lf dn) && okWx (Dk.mk du cu qu am lf dn) x)
  (cond ((Dr.e z1) == 0)
  (cond (okDk un cn (Dr.d z1))
  (some ([.one (.int .i64 (Dr.e (Dk.sync (Dr.d z1))))], [.var [.ptr 1 0, .int .i64 ac, .int .u64 ge, .sl true 22 rc, .int .i64 fi, .bool ((Dr.e (Dk.sync (Dr.d z1))) != 0)], .var [.msl 5 2 un, .msl 5 3 cn, .sl true 85 (Dk.q (Dr.d (Dk.sync (Dr.d z1)))), .bool (Dk.arm (Dr.d (Dk.sync (Dr.d z1)))), .int .i64 (Dk.left (Dr.d (Dk.sync (Dr.d z1)))), .bool (Dk.down (Dr.d (Dk.sync (Dr.d z1))))], .arr 5 (Dk.dur (Dr.d (Dk.sync (Dr.d z1)))), .arr 5 (Dk.cur (Dr.d (Dk.sync (Dr.d z1))))]))
  none)
  (some ([.one (.int .i64 (Dr.e z1))], [.var [.ptr 1 0, .int .i64 ac, .int .u64 ge, .sl true 22 rc, .int .i64 fi, .bool ((Dr.e z1) != 0)], .var [.msl 5 2 un, .msl 5 3 cn, .sl true 85 (Dk.q (Dr.d z1)), .bool (Dk.arm (Dr.d z1)), .int .i64 (Dk.left (Dr.d z1)), .bool (Dk.down (Dr.d z1))], .arr 5 (Dk.dur (Dr.d z1)), .arr 5 (Dk.cur (Dr.d z1))])))
  none) := by kernel_rfl

noncomputable def P59_0 : List AItem := F59.at [.snd, .snd, .fst, .snd, .sub, .head]

def M59_0 (t3 : List (List Cell)) (t6 : List (List Cell)) (t7 : Int) (t8 : Int) : St := ⟨[(3, .one (.sl true 22 t3)), (6, .one (.sl false 22 t6)), (7, .one (.int .i64 t7)), (8, .one (.int .i64 t8))], []⟩

theorem e59 (m : Nat) (r : List (List Cell)) : runF E (callOf L22) (m + 1) 59 [.one (.sl false 22 r)] [] =
  (goF E (callOf L22) F59 0 m P59_0 (M59_0 ([] : List (List Cell)) r (r.length : Int) 0)) := by kernel_rfl

theorem e59_0 (m : Nat) (t3 t6 : List (List Cell)) (t7 t8 : Int) : goF E (callOf L22) F59 0 (m + 1) P59_0 (M59_0 t3 t6 t7 t8) =
  (cond (decide (t8 < t7))
  (cond (inB t8 t6.length)
  (cond (fits (([] : List (List Cell)).length + (nl (Abs.rowAt t6 (Int.toNat t8)) 0).length))
  (cond (fits (t3.length + [[Cell.slice 5 (([] : List (List Cell)) ++ (nl (Abs.rowAt t6 (Int.toNat t8)) 0))]].length))
  (goF E (callOf L22) F59 0 m P59_0 (M59_0 (t3 ++ [[Cell.slice 5 (([] : List (List Cell)) ++ (nl (Abs.rowAt t6 (Int.toNat t8)) 0))]]) t6 t7 (IntKind.wrap .i64 (t8 + 1))))
  none)
  none)
  none)
  (some ([.one (.sl true 22 t3)], []))) := by kernel_rfl

theorem e28 (m : Nat) (ac ge : Int) (rc : List (List Cell)) (fi : Int) (fa : Bool) (un cn : Nat) (qu : List (List Cell)) (am : Bool) (lf : Int) (dn : Bool) (du cu : List (List Cell)) : runF E (callOf L59) (m + 1) 28 [.one (.ptr 0 0)] [.var [.ptr 1 0, .int .i64 ac, .int .u64 ge, .sl true 22 rc, .int .i64 fi, .bool fa], .var [.msl 5 2 un, .msl 5 3 cn, .sl true 85 qu, .bool am, .int .i64 lf, .bool dn], .arr 5 du, .arr 5 cu] =
  (cond (okRs rc)
  (some ([.one (.sl true 22 (cloneR rc))], [.var [.ptr 1 0, .int .i64 ac, .int .u64 ge, .sl true 22 rc, .int .i64 fi, .bool fa], .var [.msl 5 2 un, .msl 5 3 cn, .sl true 85 qu, .bool am, .int .i64 lf, .bool dn], .arr 5 du, .arr 5 cu]))
  none) := by kernel_rfl

theorem e28_c1 (m : Nat)  : runF E (callOf L59) (m + 1) 28 [.one (.nilp)] [] =
  (some ([.one (.sl true 22 ([] : List (List Cell)))], [])) := by kernel_rfl

theorem e29 (m : Nat) (ac ge : Int) (rc : List (List Cell)) (fi : Int) (fa : Bool) (un cn : Nat) (qu : List (List Cell)) (am : Bool) (lf : Int) (dn : Bool) (du cu : List (List Cell)) : runF E (callOf L28) (m + 1) 29 [.one (.ptr 0 0)] [.var [.ptr 1 0, .int .i64 ac, .int .u64 ge, .sl true 22 rc, .int .i64 fi, .bool fa], .var [.msl 5 2 un, .msl 5 3 cn, .sl true 85 qu, .bool am, .int .i64 lf, .bool dn], .arr 5 du, .arr 5 cu] =
  (some ([.one (.int .u64 ge)], [.var [.ptr 1 0, .int .i64 ac, .int .u64 ge, .sl true 22 rc, .int .i64 fi, .bool fa], .var [.msl 5 2 un, .msl 5 3 cn, .sl true 85 qu, .bool am, .int .i64 lf, .bool dn], .arr 5 du, .arr 5 cu])) := by kernel_rfl

theorem e29_c1 (m : Nat)  : runF E (callOf L28) (m + 1) 29 [.one (.nilp)] [] =
  (some ([.one (.int .u64 0)], [])) := by kernel_rfl

theorem e30 (m : Nat) (ac ge : Int) (rc : List (List Cell)) (fi : Int) (fa : Bool) (un cn : Nat) (qu : List (List Cell)) (am : Bool) (lf : Int) (dn : Bool) (du cu : List (List Cell)) : runF E (callOf L29) (m + 1) 30 [.one (.ptr 0 0)] [.var [.ptr 1 0, .int .i64 ac, .int .u64 ge, .sl true 22 rc, .int .i64 fi, .bool fa], .var [.msl 5 2 un, .msl 5 3 cn, .sl true 85 qu, .bool am, .int .i64 lf, .bool dn], .arr 5 du, .arr 5 cu] =
  (cond (okDk un cn (Dk.mk du cu qu am lf dn))
  (cond (true && ((sb1 (.var [.ptr 1 0, .int .i64 ac, .int .u64 ge, .sl true 22 rc, .int .i64 fi, .bool fa])) && ((sb1 (.var [.msl 5 2 un, .msl 5 3 cn, .sl true 85 qu, .bool am, .int .i64 lf, .bool dn])) && ((sb1 (.arr 5 du)) && ((sb1 (.arr 5 cu)) && true)))))
  (some ([.one (.int .i64 (IntKind.wrap .i64 ((Dk.half (Dk.mk du cu qu am lf dn) - 32) - fi)))], [.var [.ptr 1 0, .int .i64 ac, .int .u64 ge, .sl true 22 rc, .int .i64 fi, .bool fa], .var [.msl 5 2 un, .msl 5 3 cn, .sl true 85 qu, .bool am, .int .i64 lf, .bool dn], .arr 5 du, .arr 5 cu]))
  none)
  none) := by kernel_rfl

theorem e30_c1 (m : Nat)  : runF E (callOf L29) (m + 1) 30 [.one (.nilp)] [] =
  (some ([.one (.int .i64 0)], [])) := by kernel_rfl

theorem e61 (m : Nat) (ac ge : Int) (rc : List (List Cell)) (fi : Int) (fa : Bool) (un cn : Nat) (qu : List (List Cell)) (am : Bool) (lf : Int) (dn : Bool) (du cu : List (List Cell)) : runF E (callOf L30) (m + 1) 61 [.one (.ptr 0 0)] [.var [.ptr 1 0, .int .i64 ac, .int .u64 ge, .sl true 22 rc, .int .i64 fi, .bool fa], .var [.msl 5 2 un, .msl 5 3 cn, .sl true 85 qu, .bool am, .int .i64 lf, .bool dn], .arr 5 du, .arr 5 cu] =
  (cond fa
  (some ([.one (.int .i64 15)], [.var [.ptr 1 0, .int .i64 ac, .int .u64 ge, .sl true 22 rc, .int .i64 fi, .bool fa], .var [.msl 5 2 un, .msl 5 3 cn, .sl true 85 qu, .bool am, .int .i64 lf, .bool dn], .arr 5 du, .arr 5 cu]))
  (some ([.one (.int .i64 0)], [.var [.ptr 1 0, .int .i64 ac, .int .u64 ge, .sl true 22 rc, .int .i64 fi, .bool fa], .var [.msl 5 2 un, .msl 5 3 cn, .sl true 85 qu, .bool am, .int .i64 lf, .bool dn], .arr 5 du, .arr 5 cu]))) := by kernel_rfl

theorem e61_c1 (m : Nat)  : runF E (callOf L30) (m + 1) 61 [.one (.nilp)] [] =
  (some ([.one (.int .i64 17)], [])) := by kernel_rfl

theorem e62 (m : Nat) (x : List (List Cell)) : runF E (callOf L61) (m + 1) 62 [.one (.sl false 5 x)] [] =
  (cond ((x.length : Int) == 0)
  (some ([.one (.int .i64 2)], []))
  (cond (decide ((x.length : Int) > 30000))
  (some ([.one (.int .i64 3)], []))
  (some ([.one (.int .i64 0)], [])))) := by kernel_rfl

theorem e15 (m : Nat) (x : List (List Cell)) (n : Int) : runF E (callOf L34) (m + 1) 15 [.one (.sl false 5 x), .one (.int .i64 n)] [] =
  (cond (inB (if n < (x.length : Int) then n else (x.length : Int)) (x.length + 1))
  (cond (fits (([] : List (List Cell)).length + (takeN x (Int.toNat (if n < (x.length : Int) then n else (x.length : Int)))).length))
  (some ([.one (.sl true 5 (([] : List (List Cell)) ++ (takeN x (Int.toNat (if n < (x.length : Int) then n else (x.length : Int))))))], []))
  none)
  none) := by kernel_rfl

noncomputable def P27_0 : List AItem := F27.at [.snd, .snd, .fst, .snd, .sub, .head]

def M27_0 (t0 : List (List Cell)) (t1 : List (List Cell)) (t5 : Int) : St := ⟨[(0, .one (.sl false 22 t0)), (1, .one (.sl false 22 t1)), (5, .one (.int .i64 t5))], []⟩

theorem e27 (m : Nat) (r t : List (List Cell)) : runF E (callOf L15) (m + 1) 27 [.one (.sl false 22 r), .one (.sl false 22 t)] [] =
  (cond ((r.length : Int) != (t.length : Int))
  (some ([.one (.bool false)], []))
  (goF E (callOf L15) F27 0 m P27_0 (M27_0 r t 0))) := by kernel_rfl

theorem e27_0 (m : Nat) (t0 t1 : List (List Cell)) (t5 : Int) : goF E (callOf L15) F27 0 (m + 1) P27_0 (M27_0 t0 t1 t5) =
  (cond (decide (t5 < (t0.length : Int)))
  (cond (inB t5 t0.length)
  (cond (inB t5 t1.length)
  (cond (!((toBytes (nl (Abs.rowAt t0 (Int.toNat t5)) 0)) == (toBytes (nl (Abs.rowAt t1 (Int.toNat t5)) 0))))
  (some ([.one (.bool false)], []))
  (goF E (callOf L15) F27 0 m P27_0 (M27_0 t0 t1 (IntKind.wrap .i64 (t5 + 1)))))
  none)
  none)
  (some ([.one (.bool true)], []))) := by kernel_rfl

noncomputable def P18_0 : List AItem := F18.at [.snd, .snd, .fst, .snd, .sub, .head]

def M18_0 (t0 : List (List Cell)) (t1 : Int) (t5 : List (List Cell)) (t6 : Int) : St := ⟨[(0, .one (.sl false 22 t0)), (1, .one (.int .i64 t1)), (5, .one (.sl true 22 t5)), (6, .one (.int .i64 t6))], []⟩

theorem e18 (m : Nat) (r : List (List Cell)) (k : Int) : runF E (callOf L27) (m + 1) 18 [.one (.sl false 22 r), .one (.int .i64 k)] [] =
  (goF E (callOf L27) F18 0 m P18_0 (M18_0 r k ([] : List (List Cell)) 0)) := by kernel_rfl

theorem e18_0 (m : Nat) (t0 : List (List Cell)) (t1 : Int) (t5 : List (List Cell)) (t6 : Int) : goF E (callOf L27) F18 0 (m + 1) P18_0 (M18_0 t0 t1 t5 t6) =
  (cond (decide (t6 < (t0.length : Int)))
  (cond (decide (t6 < t1))
  (cond (inB t6 t0.length)
  (cond (pd ((0 : Int) ≤ 40) && pd (40 ≤ (1000 : Int)))
  (cond (fits (((nl (Abs.rowAt t0 (Int.toNat t6)) 0).take (Int.toNat 40)).length + [[Cell.int .u8 (IntKind.wrap .u8 t6)]].length))
  (cond (fits (t5.length + [[Cell.slice 5 (((nl (Abs.rowAt t0 (Int.toNat t6)) 0).take (Int.toNat 40)) ++ [[Cell.int .u8 (IntKind.wrap .u8 t6)]])]].length))
  (goF E (callOf L27) F18 0 m P18_0 (M18_0 t0 t1 (t5 ++ [[Cell.slice 5 (((nl (Abs.rowAt t0 (Int.toNat t6)) 0).take (Int.toNat 40)) ++ [[Cell.int .u8 (IntKind.wrap .u8 t6)]])]]) (IntKind.wrap .i64 (t6 + 1))))
  none)
  none)
  none)
  none)
  (some ([.one (.sl true 22 t5)], [])))
  (some ([.one (.sl true 22 t5)], []))) := by kernel_rfl

end Go.Proofs.Ytpafnokcmhlbgaa

namespace Go.Proofs.Ytpafnokcmhlbgaa

open Go.Abs

theorem nbeq_of {a b : Nat} (h : a = b) : Nat.beq a b = true := by subst h; exact nbeq_self _

theorem nble_of {a b : Nat} (h : a ≤ b) : Nat.ble a b = true := Nat.ble_eq_true_of_le h

theorem nblt_of {a b : Nat} (h : a < b) : Nat.blt a b = true := Nat.ble_eq_true_of_le h

theorem fits_mk {n : Nat} (h : n ≤ 4294967296) : fits n = true := nble_of h

theorem okMake_mk {n : Int} (h0 : 0 ≤ n) (h : n ≤ 4294967296) : okMake n n = true := by
  unfold okMake
  simp only [Bool.and_eq_true, decide_eq_true_eq]
  exact ⟨⟨h0, Int.le_refl _⟩, fits_mk (by omega)⟩

theorem and_mk {a b : Bool} (h1 : a = true) (h2 : b = true) : (a && b) = true := by simp [h1, h2]

theorem inB_mk {i : Int} {n : Nat} (h0 : 0 ≤ i) (h : i < n) : inB i n = true := by simp [inB, h0, h]

theorem inB_le {i : Int} {n : Nat} (h0 : 0 ≤ i) (h : i ≤ n) : inB i (n + 1) = true := by simp [inB, h0]; omega

theorem overL_eq (x : List (List Cell)) (o : Nat) (y : List (List Cell)) : overL x o y = x.take o ++ (y ++ x.drop (o + y.length)) := by
  simp only [overL, app_eq, takeN_eq, dropN_eq, lenN_eq]

theorem overL_len {x : List (List Cell)} {o : Nat} {y : List (List Cell)} (h : o + y.length ≤ x.length) : (overL x o y).length = x.length := by
  rw [overL_eq]; simp only [List.length_append, List.length_take, List.length_drop]; omega

theorem overL_nil (x : List (List Cell)) (o : Nat) : overL x o [] = x := by rw [overL_eq]; simp

theorem overL_over {x : List (List Cell)} {o : Nat} {y z : List (List Cell)} (h : o + y.length + z.length ≤ x.length) : overL (overL x o y) (o + y.length) z = overL x o (y ++ z) := by
  have hl : (overL x o y).length = x.length := overL_len (by omega)
  rw [overL_eq (overL x o y), overL_eq x o y, overL_eq x o (y ++ z)]
  have h1 : (x.take o ++ (y ++ x.drop (o + y.length))).take (o + y.length) = x.take o ++ y := by
    rw [← List.append_assoc, List.take_append_of_le_length (by simp; omega), List.take_of_length_le (by simp; omega)]
  have h2 : (x.take o ++ (y ++ x.drop (o + y.length))).drop (o + y.length + z.length) = x.drop (o + (y ++ z).length) := by
    rw [← List.append_assoc, List.drop_append, List.drop_eq_nil_of_le (by simp; omega), List.nil_append, List.drop_drop, List.length_append]
    congr 1
    simp only [List.length_append, List.length_take]
    omega
  rw [h1, h2]
  simp

theorem subL_eq (x : List (List Cell)) (lo hi : Nat) : subL x lo hi = (x.take hi).drop lo := by simp only [subL, takeN_eq, dropN_eq]

theorem subL_len {x : List (List Cell)} {lo hi : Nat} (h : hi ≤ x.length) : (subL x lo hi).length = hi - lo := by
  rw [subL_eq]; simp only [List.length_drop, List.length_take]; omega

theorem okB_sub {x : List (List Cell)} (h : okB x = true) (lo hi : Nat) : okB (subL x lo hi) = true := by
  rw [subL_eq]; exact okB_drop (okB_take h _) _

theorem okB_over {x y : List (List Cell)} (hx : okB x = true) (hy : okB y = true) (o : Nat) : okB (overL x o y) = true := by
  rw [overL_eq]; exact okB_app (okB_take hx _) (okB_app hy (okB_drop hx _))

theorem okB_rep (n : Nat) : okB (List.replicate n [.int .u8 0]) = true := by
  induction n with
  | zero => rfl
  | succ n ih =>
    rw [List.replicate_succ]
    simp only [okB, List.all_cons, isByte] at ih ⊢
    simp [ih]

theorem bigF_len : ∀ (k : Nat) (v : Int), (bigF k v).length = k
  | 0, _ => rfl
  | k + 1, v => by simp [bigF, bigF_len k]

theorem bigF_okB : ∀ (k : Nat) (v : Int), okB (bigF k v) = true
  | 0, _ => rfl
  | k + 1, v => by
    refine okB_app (bigF_okB k _) ?_
    simp only [okB, List.all_cons, List.all_nil, isByte, Bool.and_true, Bool.and_eq_true, decide_eq_true_eq]
    omega

theorem shr_u64 (v : Int) (k : Nat) (h : k ≤ 64) : shrI .u64 v (k : Int) = v / 2 ^ k := by
  unfold shrI
  have e : min ((k : Int).toNat) IntKind.u64.bits = k := by
    have : IntKind.u64.bits = 64 := rfl
    rw [this]; omega
  rw [e, Int.fdiv_eq_ediv_of_nonneg]
  exact Int.le_of_lt (Int.pow_pos (by decide))

theorem shr_56 (v : Int) : IntKind.wrap .u8 (shrI .u64 v 56) = v / 72057594037927936 % 256 := by rw [show (56 : Int) = ((56 : Nat) : Int) from rfl, shr_u64 v 56 (by omega), wrapu8_eq]; rfl

theorem shr_48 (v : Int) : IntKind.wrap .u8 (shrI .u64 v 48) = v / 281474976710656 % 256 := by rw [show (48 : Int) = ((48 : Nat) : Int) from rfl, shr_u64 v 48 (by omega), wrapu8_eq]; rfl

theorem shr_40 (v : Int) : IntKind.wrap .u8 (shrI .u64 v 40) = v / 1099511627776 % 256 := by rw [show (40 : Int) = ((40 : Nat) : Int) from rfl, shr_u64 v 40 (by omega), wrapu8_eq]; rfl

theorem shr_32 (v : Int) : IntKind.wrap .u8 (shrI .u64 v 32) = v / 4294967296 % 256 := by rw [show (32 : Int) = ((32 : Nat) : Int) from rfl, shr_u64 v 32 (by omega), wrapu8_eq]; rfl

theorem shr_24 (v : Int) : IntKind.wrap .u8 (shrI .u64 v 24) = v / 16777216 % 256 := by rw [show (24 : Int) = ((24 : Nat) : Int) from rfl, shr_u64 v 24 (by omega), wrapu8_eq]; rfl

theorem shr_16 (v : Int) : IntKind.wrap .u8 (shrI .u64 v 16) = v / 65536 % 256 := by rw [show (16 : Int) = ((16 : Nat) : Int) from rfl, shr_u64 v 16 (by omega), wrapu8_eq]; rfl

theorem shr_8 (v : Int) : IntKind.wrap .u8 (shrI .u64 v 8) = v / 256 % 256 := by rw [show (8 : Int) = ((8 : Nat) : Int) from rfl, shr_u64 v 8 (by omega), wrapu8_eq]; rfl

theorem shr_0 (v : Int) : IntKind.wrap .u8 (shrI .u64 v 0) = v % 256 := by rw [show (0 : Int) = ((0 : Nat) : Int) from rfl, shr_u64 v 0 (by omega), wrapu8_eq]; simp

theorem big4 (v : Int) : bigF 4 v = [[.int .u8 (v / 16777216 % 256)], [.int .u8 (v / 65536 % 256)], [.int .u8 (v / 256 % 256)], [.int .u8 (v % 256)]] := by
  simp only [bigF, List.nil_append, List.cons_append]
  rw [show v / 256 / 256 / 256 = v / 16777216 by omega, show v / 256 / 256 = v / 65536 by omega]

theorem big8 (v : Int) : bigF 8 v = [[.int .u8 (v / 72057594037927936 % 256)], [.int .u8 (v / 281474976710656 % 256)], [.int .u8 (v / 1099511627776 % 256)], [.int .u8 (v / 4294967296 % 256)], [.int .u8 (v / 16777216 % 256)], [.int .u8 (v / 65536 % 256)], [.int .u8 (v / 256 % 256)], [.int .u8 (v % 256)]] := by
  simp only [bigF, List.nil_append, List.cons_append]
  rw [show v / 256 / 256 / 256 / 256 / 256 / 256 / 256 = v / 72057594037927936 by omega, show v / 256 / 256 / 256 / 256 / 256 / 256 = v / 281474976710656 by omega, show v / 256 / 256 / 256 / 256 / 256 = v / 1099511627776 by omega,
    show v / 256 / 256 / 256 / 256 = v / 4294967296 by omega, show v / 256 / 256 / 256 = v / 16777216 by omega, show v / 256 / 256 = v / 65536 by omega]

theorem numF_app (x y : List (List Cell)) : ∀ (a : Int), numF a (x ++ y) = numF (numF a x) y := by
  induction x with
  | nil => intro a; rfl
  | cons r x ih => intro a; simp only [List.cons_append, numF, ih]

theorem numF_big : ∀ (k : Nat) (a v : Int), 0 ≤ v → v < 256 ^ k → numF a (bigF k v) = a * 256 ^ k + v
  | 0, a, v, h0, h => by simp [bigF, numF] at h ⊢; omega
  | k + 1, a, v, h0, h => by
    have e : (256 : Int) ^ (k + 1) = 256 ^ k * 256 := Int.pow_succ _ _
    have hp : (0 : Int) < 256 ^ k := Int.pow_pos (by decide)
    rw [bigF, numF_app, numF_big k a (v / 256) (by omega) (by rw [e] at h; omega)]
    show (a * 256 ^ k + v / 256) * 256 + v % 256 = a * 256 ^ (k + 1) + v
    rw [e, ← Int.mul_assoc]
    generalize a * 256 ^ k = q
    omega

theorem numF_bound : ∀ (x : List (List Cell)) (a : Int), okB x = true → 0 ≤ a → 0 ≤ numF a x ∧ numF a x < (a + 1) * 256 ^ x.length
  | [], a, _, h0 => by simp [numF]; omega
  | r :: x, a, hx, h0 => by
    have h1 : 0 ≤ nr r 0 ∧ nr r 0 < 256 := okB_at hx (i := 0) (by simp)
    have h2 : okB x = true := by have := okB_drop hx 1; simpa using this
    have ih := numF_bound x (a * 256 + nr r 0) h2 (by omega)
    refine ⟨ih.1, Int.lt_of_lt_of_le ih.2 ?_⟩
    have e : (256 : Int) ^ (x.length + 1) = 256 * 256 ^ x.length := by rw [Int.pow_succ, Int.mul_comm]
    have hp : (0 : Int) < 256 ^ x.length := Int.pow_pos (by decide)
    rw [List.length_cons, e, ← Int.mul_assoc]
    exact Int.mul_le_mul_of_nonneg_right (by omega) (by omega)

theorem okV_mk {v : Int} (h0 : 0 ≤ v) (h : v < 18446744073709551616) : okV v = true := and_mk (pd_t h0) (pd_t h)

theorem okV_of {v : Int} (h : okV v = true) : 0 ≤ v ∧ v < 18446744073709551616 := by
  unfold okV at h
  simp only [Bool.and_eq_true] at h
  exact ⟨pd_of h.1, pd_of h.2⟩

theorem okSz_of {k : Int} (h : okSz k = true) : k = 4 ∨ k = 8 := by
  unfold okSz at h
  simpa using h

theorem xor_u32 (a b : Int) : 0 ≤ xorI .u32 a b ∧ xorI .u32 a b < 4294967296 := by
  unfold xorI
  have : ∀ n : Int, IntKind.u32.wrap n = n % 4294967296 := fun n => by
    have h1 : (2 : Int) ^ IntKind.u32.bits = 4294967296 := by decide
    have e : IntKind.u32.wrap n = if (IntKind.u32.signed && decide (n % 2 ^ IntKind.u32.bits ≥ 2 ^ (IntKind.u32.bits - 1))) = true then n % 2 ^ IntKind.u32.bits - 2 ^ IntKind.u32.bits else n % 2 ^ IntKind.u32.bits := rfl
    rw [e, h1]
    simp [IntKind.signed]
  rw [this]
  omega

theorem crcS_range (x : List (List Cell)) : 0 ≤ crcS x ∧ crcS x < 4294967296 := xor_u32 _ _

theorem wSum_range (g o : Int) (x : List (List Cell)) : 0 ≤ wSum g o x ∧ wSum g o x < 4294967296 := crcS_range _

end Go.Proofs.Ytpafnokcmhlbgaa

namespace Go.Proofs.Ytpafnokcmhlbgaa

open Go.Abs

theorem k11 (n k : Int) (hk : k < 4611686018427387904) : runF E (callOf L) 1 11 [.one (.int .i64 n), .one (.int .i64 k)] [] = some ([.one (.int .i64 (gIndex n k))], []) := by
  rw [e11]
  unfold gIndex
  by_cases h : k < 1
  · rw [if_pos h]
    exact ct (decide_eq_true h) rfl
  · rw [if_neg h]
    refine cf (decide_eq_false h) (cf (decide_eq_false (by omega)) (cf (decide_eq_false (by omega)) ?_))
    have h0 := Int.emod_nonneg n (show k ≠ 0 by omega)
    have h1 := Int.emod_lt_of_pos n (show 0 < k by omega)
    have hn : (k.natAbs : Int) = k := by omega
    have e : Int.tmod n k = n % k ∨ Int.tmod n k = n % k - k := by
      rw [Int.tmod_eq_emod]
      split
      · left; omega
      · right; omega
    refine congrArg (fun z => some ([AV.one (AC.int .i64 z)], ([] : List Block))) ?_
    rcases e with e | e
    · rw [e, wrap64 (by omega) (by omega), Int.tmod_eq_emod_of_nonneg (by omega), Int.add_emod_right]
      exact Int.emod_eq_of_lt h0 h1
    · rw [e, Int.sub_add_cancel, wrap64 (by omega) (by omega), Int.tmod_eq_emod_of_nonneg (by omega)]
      exact Int.emod_eq_of_lt h0 h1

theorem k72 (n : Nat) (v : Int) (x : List (List Cell)) (hn : n = x.length) (hx : x.length ≤ 1000000) : runF E (callOf L11) 1 72 [.one (.msl 5 0 n), .one (.int .u64 v), .one (.int .i64 8)] [.arr 5 x] = some ([.one (.msl 5 1 (x.length + 8))], [.dead, .arr 5 (x ++ bigF 8 v)]) := by
  rw [e72]
  dsimp only
  rw [shr_56, shr_48, shr_40, shr_32, shr_24, shr_16, shr_8, shr_0, big8]
  iterate 16 refine ct (by first | exact nbeq_of (by simp [hn]) | exact fits_mk (by simp; omega)) ?_
  simp

theorem k72b (n : Nat) (v : Int) (x : List (List Cell)) (hn : n = x.length) (hx : x.length ≤ 1000000) : runF E (callOf L11) 1 72 [.one (.msl 5 0 n), .one (.int .u64 v), .one (.int .i64 4)] [.arr 5 x] = some ([.one (.msl 5 1 (x.length + 4))], [.dead, .arr 5 (x ++ bigF 4 v)]) := by
  rw [e72_c1]
  rw [shr_24, shr_16, shr_8, shr_0, big4]
  iterate 8 refine ct (by first | exact nbeq_of (by simp [hn]) | exact fits_mk (by simp; omega)) ?_
  simp

theorem ov1 {x : List (List Cell)} {o p : Nat} {a b : List Cell} {y : List (List Cell)} (hp : p = o + y.length) (h : p < x.length) : overL (overL x o y) p [b] = overL x o (y ++ [b]) := by
  subst hp
  exact overL_over (by simp; omega)

theorem k72d (lo n c : Nat) (v : Int) (x : List (List Cell)) (h0 : 0 < x.length) (hc : n + 4 ≤ c) (hx : lo + n + 4 ≤ x.length) : runF E (callOf L11) 1 72 [.one (.win 5 0 lo n (some c)), .one (.int .u64 v), .one (.int .i64 4)] [.arr 5 x] = some ([.one (.win 5 0 lo (n + 4) (some c))], [.arr 5 (overL x (lo + n) (bigF 4 v))]) := by
  rw [e72_c3]
  dsimp only
  rw [shr_24, shr_16, shr_8, shr_0, big4]
  simp only [List.length_cons, List.length_nil, Nat.zero_add]
  have l1 : ∀ y : List (List Cell), y.length ≤ 4 → (overL x (lo + n) y).length = x.length := fun y hy => overL_len (by omega)
  rw [ov1 (a := []) (by simp; omega) (by omega), ov1 (a := []) (by simp; omega) (by omega), ov1 (a := []) (by simp; omega) (by omega)]
  simp only [List.nil_append, List.cons_append]
  iterate 12 refine ct (by first | exact nblt_of (by first | omega | (rw [l1 _ (by simp)]; omega)) | exact nble_of (by first | omega | (rw [l1 _ (by simp)]; omega))) ?_
  rfl

theorem k72c (lo n c : Nat) (v : Int) (x : List (List Cell)) (h0 : 0 < x.length) (hc : n + 8 ≤ c) (hx : lo + n + 8 ≤ x.length) : runF E (callOf L11) 1 72 [.one (.win 5 0 lo n (some c)), .one (.int .u64 v), .one (.int .i64 8)] [.arr 5 x] = some ([.one (.win 5 0 lo (n + 8) (some c))], [.arr 5 (overL x (lo + n) (bigF 8 v))]) := by
  rw [e72_c2]
  dsimp only
  rw [shr_56, shr_48, shr_40, shr_32, shr_24, shr_16, shr_8, shr_0, big8]
  simp only [List.length_cons, List.length_nil, Nat.zero_add]
  have l1 : ∀ y : List (List Cell), y.length ≤ 8 → (overL x (lo + n) y).length = x.length := fun y hy => overL_len (by omega)
  iterate 7 rw [ov1 (a := []) (by simp; omega) (by omega)]
  simp only [List.nil_append, List.cons_append]
  iterate 24 refine ct (by first | exact nblt_of (by first | omega | (rw [l1 _ (by simp)]; omega)) | exact nble_of (by first | omega | (rw [l1 _ (by simp)]; omega))) ?_
  rfl

end Go.Proofs.Ytpafnokcmhlbgaa

namespace Go.Proofs.Ytpafnokcmhlbgaa

open Go.Abs

theorem crcBits_succ (k : Nat) (c : Int) : crcBits (k + 1) c = crcBits k (crcBit c) := rfl

theorem l73_1 (m : Nat) (x : List (List Cell)) (n i : Int) : ∀ (d : Nat) (c t : Int), 0 ≤ t → t + d = 8 → goF E (callOf L72) F73 0 (m + (d + 1)) P73_1 (M73_1 c x n i t) = goF E (callOf L72) F73 0 m P73_0 (M73_0 (crcBits d c) x n (IntKind.wrap .i64 (i + 1)))
  | 0, c, t, h0, h => by
    rw [show m + (0 + 1) = m + 1 from rfl, e73_1]
    exact cf (decide_eq_false (by omega)) rfl
  | d + 1, c, t, h0, h => by
    have ih := l73_1 m x n i d (crcBit c) (t + 1) (by omega) (by omega)
    rw [show m + (d + 1 + 1) = (m + (d + 1)) + 1 from rfl, e73_1, wrap64 (n := t + 1) (by omega) (by omega), crcBits_succ, ← ih]
    refine ct (decide_eq_true (by omega)) ?_
    unfold crcBit
    cases ((andI .u32 c 1) != 0) <;> rfl

theorem l73_0 (x : List (List Cell)) (hx : x.length ≤ 1000000) : ∀ (d i : Nat) (c : Int), i + d = x.length → ∃ m, goF E (callOf L72) F73 0 m P73_0 (M73_0 c x x.length i) = some ([.one (.int .u32 (xorI .u32 4294967295 (crcF c (x.drop i))))], [])
  | 0, i, c, h => by
    refine ⟨1, ?_⟩
    rw [e73_0, List.drop_eq_nil_of_le (by omega)]
    exact cf (decide_eq_false (by omega)) rfl
  | d + 1, i, c, h => by
    obtain ⟨m, hm⟩ := l73_0 x hx d (i + 1) (crcBits 8 (xorI .u32 c (IntKind.wrap .u32 (nr (Abs.rowAt x i) 0)))) (by omega)
    refine ⟨m + 9 + 1, ?_⟩
    rw [e73_0, drop_cons x i (by omega), Int.toNat_natCast]
    refine ct (decide_eq_true (by omega)) (ct (inB_nat' (by omega)) ?_)
    rw [l73_1 m x _ _ 8 _ 0 (by omega) (by omega), wrap64 (by omega) (by omega)]
    exact hm

theorem k73 (x : List (List Cell)) (hx : x.length ≤ 1000000) : ∃ m, runF E (callOf L72) m 73 [.one (.sl false 5 x)] [] = some ([.one (.int .u32 (crcS x))], []) := by
  obtain ⟨m, hm⟩ := l73_0 x hx x.length 0 4294967295 (by omega)
  exact ⟨m + 1, by rw [e73]; exact hm⟩

theorem l73_1c (m : Nat) (x : List (List Cell)) (q : Nat) (n i : Int) : ∀ (d : Nat) (c t : Int), 0 ≤ t → t + d = 8 → goF E (callOf L72) F73 1 (m + (d + 1)) P73_1_c1 (M73_1_c1 c q n i t x) = goF E (callOf L72) F73 1 m P73_0_c1 (M73_0_c1 (crcBits d c) q n (IntKind.wrap .i64 (i + 1)) x)
  | 0, c, t, h0, h => by
    rw [show m + (0 + 1) = m + 1 from rfl, e73_1_c1]
    exact cf (decide_eq_false (by omega)) rfl
  | d + 1, c, t, h0, h => by
    have ih := l73_1c m x q n i d (crcBit c) (t + 1) (by omega) (by omega)
    rw [show m + (d + 1 + 1) = (m + (d + 1)) + 1 from rfl, e73_1_c1, wrap64 (n := t + 1) (by omega) (by omega), crcBits_succ, ← ih]
    refine ct (decide_eq_true (by omega)) ?_
    unfold crcBit
    cases ((andI .u32 c 1) != 0) <;> rfl

theorem l73_0c (x : List (List Cell)) (hx : x.length ≤ 1000000) : ∀ (d i : Nat) (c : Int), i + d = x.length → ∃ m, goF E (callOf L72) F73 1 m P73_0_c1 (M73_0_c1 c x.length x.length i x) = some ([.one (.int .u32 (xorI .u32 4294967295 (crcF c (x.drop i))))], [.arr 5 x])
  | 0, i, c, h => by
    refine ⟨1, ?_⟩
    rw [e73_0_c1, List.drop_eq_nil_of_le (by omega)]
    exact cf (decide_eq_false (by omega)) rfl
  | d + 1, i, c, h => by
    obtain ⟨m, hm⟩ := l73_0c x hx d (i + 1) (crcBits 8 (xorI .u32 c (IntKind.wrap .u32 (nr (Abs.rowAt x i) 0)))) (by omega)
    refine ⟨m + 9 + 1, ?_⟩
    rw [e73_0_c1, drop_cons x i (by omega), Int.toNat_natCast]
    refine ct (decide_eq_true (by omega)) (ct (inB_nat' (by omega)) (ct (nblt_of (by omega)) ?_))
    rw [l73_1c m x _ _ _ 8 _ 0 (by omega) (by omega), wrap64 (by omega) (by omega)]
    exact hm

theorem k73b (n : Nat) (x : List (List Cell)) (hx : x.length ≤ 1000000) (hn : n = x.length) : ∃ m, runF E (callOf L72) m 73 [.one (.msl 5 0 n)] [.arr 5 x] = some ([.one (.int .u32 (crcS x))], [.arr 5 x]) := by
  subst hn
  obtain ⟨m, hm⟩ := l73_0c x hx x.length 0 4294967295 (by omega)
  exact ⟨m + 1, by rw [e73_c1]; exact hm⟩

theorem l73_1d (m : Nat) (x : List (List Cell)) (lo q c0 : Nat) (n i : Int) : ∀ (d : Nat) (c t : Int), 0 ≤ t → t + d = 8 → goF E (callOf L72) F73 1 (m + (d + 1)) P73_1_c2 (M73_1_c2 c lo q c0 n i t x) = goF E (callOf L72) F73 1 m P73_0_c2 (M73_0_c2 (crcBits d c) lo q c0 n (IntKind.wrap .i64 (i + 1)) x)
  | 0, c, t, h0, h => by
    rw [show m + (0 + 1) = m + 1 from rfl, e73_1_c2]
    exact cf (decide_eq_false (by omega)) rfl
  | d + 1, c, t, h0, h => by
    have ih := l73_1d m x lo q c0 n i d (crcBit c) (t + 1) (by omega) (by omega)
    rw [show m + (d + 1 + 1) = (m + (d + 1)) + 1 from rfl, e73_1_c2, wrap64 (n := t + 1) (by omega) (by omega), crcBits_succ, ← ih]
    refine ct (decide_eq_true (by omega)) ?_
    unfold crcBit
    cases ((andI .u32 c 1) != 0) <;> rfl

theorem l73_0d (x : List (List Cell)) (lo n c0 : Nat) (hn : n ≤ 1000000) (hx : lo + n ≤ x.length) : ∀ (d i : Nat) (c : Int), i + d = n → ∃ m, goF E (callOf L72) F73 1 m P73_0_c2 (M73_0_c2 c lo n c0 n i x) = some ([.one (.int .u32 (xorI .u32 4294967295 (crcF c ((subL x lo (lo + n)).drop i))))], [.arr 5 x])
  | 0, i, c, h => by
    refine ⟨1, ?_⟩
    rw [e73_0_c2, List.drop_eq_nil_of_le (by rw [subL_len hx]; omega)]
    exact cf (decide_eq_false (by omega)) rfl
  | d + 1, i, c, h => by
    obtain ⟨m, hm⟩ := l73_0d x lo n c0 hn hx d (i + 1) (crcBits 8 (xorI .u32 c (IntKind.wrap .u32 (nr (Abs.rowAt x (lo + i)) 0)))) (by omega)
    refine ⟨m + 9 + 1, ?_⟩
    have e : Abs.rowAt (subL x lo (lo + n)) i = Abs.rowAt x (lo + i) := by rw [subL_eq, rowAt_drop, rowAt_take _ _ _ (by omega)]
    rw [e73_0_c2, drop_cons _ i (by rw [subL_len hx]; omega), Int.toNat_natCast, e]
    refine ct (decide_eq_true (by omega)) (ct (inB_nat' (by omega)) (ct (nblt_of (by omega)) ?_))
    rw [l73_1d m x _ _ _ _ _ 8 _ 0 (by omega) (by omega), wrap64 (by omega) (by omega)]
    exact hm

theorem k73c (lo n c : Nat) (x : List (List Cell)) (hx : lo + n ≤ x.length) (hn : n ≤ 1000000) : ∃ m, runF E (callOf L72) m 73 [.one (.win 5 0 lo n (some c))] [.arr 5 x] = some ([.one (.int .u32 (crcS (subL x lo (lo + n))))], [.arr 5 x]) := by
  obtain ⟨m, hm⟩ := l73_0d x lo n c hn hx n 0 4294967295 (by omega)
  exact ⟨m + 1, by rw [e73_c2]; exact hm⟩

theorem or_shl8 {a b : Int} (ha : 0 ≤ a) (ha2 : a < 72057594037927936) (hb : 0 ≤ b) (hb2 : b < 256) : orI .u64 (shlI .u64 a 8) (IntKind.wrap .u64 b) = a * 256 + b := by
  obtain ⟨p, rfl⟩ := Int.eq_ofNat_of_zero_le ha
  obtain ⟨q, rfl⟩ := Int.eq_ofNat_of_zero_le hb
  have e1 : shlI .u64 (p : Int) 8 = ((p * 2 ^ 8 : Nat) : Int) := shl64 (k := 8) (by omega) (by omega)
  rw [e1, wrapu (by omega) (by omega)]
  have e2 := or64 (a := q) (c := p) (k := 8) (by omega) (by omega)
  have e3 : orI .u64 ((p * 2 ^ 8 : Nat) : Int) (q : Int) = orI .u64 (q : Int) ((p * 2 ^ 8 : Nat) : Int) := by
    unfold orI
    rw [BitVec.or_comm]
  rw [e3, e2]
  omega

theorem l71_0 (x : List (List Cell)) (hb : okB x = true) (hx : x.length ≤ 8) : ∀ (d i : Nat) (a : Int), i + d = x.length → 0 ≤ a → a < 256 ^ i → ∃ m, goF E (callOf L73) F71 0 m P71_0 (M71_0 a x x.length i) = some ([.one (.int .u64 (numF a (x.drop i)))], [])
  | 0, i, a, h, h0, h1 => by
    refine ⟨1, ?_⟩
    rw [e71_0, List.drop_eq_nil_of_le (by omega)]
    exact cf (decide_eq_false (by omega)) rfl
  | d + 1, i, a, h, h0, h1 => by
    have hr := okB_at hb (i := i) (by omega)
    have hi : i = 0 ∨ i = 1 ∨ i = 2 ∨ i = 3 ∨ i = 4 ∨ i = 5 ∨ i = 6 ∨ i = 7 := by omega
    have ha7 : a < 72057594037927936 := by rcases hi with rfl | rfl | rfl | rfl | rfl | rfl | rfl | rfl <;> omega
    obtain ⟨m, hm⟩ := l71_0 x hb hx d (i + 1) (a * 256 + nr (Abs.rowAt x i) 0) (by omega) (by omega) (by rw [Int.pow_succ]; omega)
    refine ⟨m + 1, ?_⟩
    rw [e71_0, drop_cons x i (by omega), Int.toNat_natCast]
    refine ct (decide_eq_true (by omega)) (ct (inB_nat' (by omega)) ?_)
    rw [or_shl8 h0 ha7 hr.1 hr.2, wrap64 (by omega) (by omega)]
    exact hm

theorem k71 (x : List (List Cell)) (hb : okB x = true) (hx : x.length ≤ 8) : ∃ m, runF E (callOf L73) m 71 [.one (.sl false 5 x)] [] = some ([.one (.int .u64 (numF 0 x))], []) := by
  obtain ⟨m, hm⟩ := l71_0 x hb hx x.length 0 0 (by omega) (by omega) (by simp)
  exact ⟨m + 1, by rw [e71]; exact hm⟩

theorem wMag_eq : wMag = [[Cell.int .u8 69], [Cell.int .u8 83], [Cell.int .u8 76], [Cell.int .u8 49]] := by
  simp [wMag, ofBytes, byteRow]

theorem wMag_okB : okB wMag = true := by rw [wMag_eq]; decide

theorem wMag_len : wMag.length = 4 := by rw [wMag_eq]; rfl

theorem wHdr_len (g : Int) : (wHdr g).length = 32 := by simp [wHdr, bigF_len, wMag_len]

theorem wHdr_okB (g : Int) : okB (wHdr g) = true := okB_app wMag_okB (okB_app (bigF_okB _ _) (okB_app (bigF_okB _ _) (okB_rep 16)))

theorem k51 (g : Int) (hg : okV g = true) : runF E (callOf L71) 1 51 [.one (.int .u64 g)] [] = some ([.one (.sl false 5 (wHdr g))], []) := by
  rw [e51]
  dsimp only
  rw [← wMag_eq, show Int.toNat 8 = 8 from rfl, show Int.toNat 4 = 4 from rfl]
  have hcr := crcS_range (wMag ++ bigF 8 g)
  have hlen : (wMag ++ bigF 8 g).length = 12 := by simp [wMag_len, bigF_len]
  have hok : okB (wMag ++ bigF 8 g) = true := okB_app wMag_okB (bigF_okB _ _)
  rw [wrapu (n := crcS (wMag ++ bigF 8 g)) (by omega) (by omega)]
  have hb4 := bigF_len 4 (crcS (wMag ++ bigF 8 g))
  have hw : IntKind.wrap .i64 (32 - (((wMag ++ bigF 8 g).length : Int) + ((4 : Nat) : Int))) = 16 := by rw [hlen]; rfl
  rw [hw]
  have h16 : Int.toNat 16 = 16 := rfl
  rw [h16]
  refine ct (and_mk hg (and_mk rfl (and_mk (nbeq_of wMag_len.symm) (pd_t (by rw [wMag_len]; omega))))) ?_
  refine ct (and_mk (and_mk hok (pd_t (by omega))) (nbeq_of (by rw [wMag_len, hlen]))) ?_
  refine ct (and_mk (okV_mk (by omega) (by omega)) (and_mk rfl (and_mk (nbeq_of (by rw [wMag_len, hlen])) (pd_t (by omega))))) ?_
  have hl4 : ((wMag ++ bigF 8 g) ++ bigF 4 (crcS (wMag ++ bigF 8 g))).length = 16 := by rw [List.length_append, hb4, hlen]
  refine ct (nbeq_of (by rw [hl4, hlen])) (ct (okMake_mk (by omega) (by omega)) (ct (fits_mk (by rw [hl4]; omega)) (ct (nbeq_of (by rw [List.length_append (bs := List.replicate _ _), List.length_replicate])) ?_)))
  simp only [wHdr, List.append_assoc]

theorem wNum_range {b : List (List Cell)} (hb : okB b = true) {i j : Nat} (hj : j ≤ b.length) (hij : j - i ≤ 8) : 0 ≤ wNum b i j ∧ wNum b i j < 256 ^ (j - i) := by
  have h := numF_bound (subL b i j) 0 (okB_sub hb i j) (by omega)
  rw [subL_len hj] at h
  unfold wNum
  omega

theorem pow8 : (256 : Int) ^ 8 = 18446744073709551616 := by decide

theorem pow4 : (256 : Int) ^ 4 = 4294967296 := by decide

theorem k46 (x : List (List Cell)) (hb : okB x = true) (hx : x.length = 32) : runF E (callOf L51) 1 46 [.one (.sl false 5 x)] [] = some ([.one (.int .u64 (wGen x))], []) := by
  rw [e46]
  have hr := wNum_range hb (i := 4) (j := 12) (by omega) (by omega)
  rw [show (12 - 4 : Nat) = 8 from rfl, pow8] at hr
  refine cf (by simp [hx]) (ct (inB_le (by omega) (by omega)) (ct (and_mk (okB_sub hb _ _) (pd_t (by rw [subL_len (by omega)]; omega))) (ct (okV_mk hr.1 hr.2) ?_)))
  unfold wGen
  by_cases h : toBytes (wHdr (wNum x 4 12)) = toBytes x
  · rw [if_pos h]
    exact cf (by simpa [wNum] using h) rfl
  · rw [if_neg h]
    exact ct (by simpa [wNum] using h) rfl

theorem rep_len (n : Nat) : (List.replicate n [Cell.int .u8 0]).length = n := List.length_replicate

theorem k77 (g o : Int) (x : List (List Cell)) (hg : okV g = true) (ho0 : 0 ≤ o) (ho : o ≤ 4611686018427387904) (hb : okB x = true) (hx : x.length ≤ 30000) : runF E (callOf L46) 1 77 [.one (.int .u64 g), .one (.int .i64 o), .one (.sl false 5 x)] [] = some ([.one (.int .u32 (wSum g o x))], []) := by
  rw [e77]
  dsimp only
  rw [show Int.toNat 8 = 8 from rfl, show Int.toNat 4 = 4 from rfl]
  simp only [Nat.zero_add, Nat.reduceAdd]
  rw [wrapu (n := o) (by omega) (by omega), wrapu (n := (x.length : Int)) (by omega) (by omega)]
  have hR := rep_len 30016
  generalize List.replicate 30016 [Cell.int .u8 0] = R at hR
  have l8 := bigF_len 8 g
  have lo4 := bigF_len 4 o
  have ln4 := bigF_len 4 (x.length : Int)
  have e1 : overL (overL R 0 (bigF 8 g)) 8 (bigF 4 o) = overL R 0 (bigF 8 g ++ bigF 4 o) := by
    have := overL_over (x := R) (o := 0) (y := bigF 8 g) (z := bigF 4 o) (by omega)
    rw [l8] at this; exact this
  have e2 : overL (overL R 0 (bigF 8 g ++ bigF 4 o)) 12 (bigF 4 (x.length : Int)) = overL R 0 ((bigF 8 g ++ bigF 4 o) ++ bigF 4 (x.length : Int)) := by
    have := overL_over (x := R) (o := 0) (y := bigF 8 g ++ bigF 4 o) (z := bigF 4 (x.length : Int)) (by rw [List.length_append]; omega)
    rw [List.length_append, l8, lo4] at this; exact this
  have hl1 : (overL R 0 (bigF 8 g)).length = R.length := overL_len (by omega)
  have hl2 : (overL R 0 (bigF 8 g ++ bigF 4 o)).length = R.length := overL_len (by rw [List.length_append]; omega)
  have hl3 : (overL R 0 ((bigF 8 g ++ bigF 4 o) ++ bigF 4 (x.length : Int))).length = R.length := overL_len (by simp only [List.length_append]; omega)
  rw [e1, e2]
  have hmin : minN 30000 x.length = x.length := by
    unfold minN
    cases hc : Nat.ble 30000 x.length with
    | false => rfl
    | true => have := Nat.le_of_ble_eq_true hc; show 30000 = x.length; omega
  have hz : ((0 : Int) + ((8 : Nat) : Int) + ((4 : Nat) : Int) + ((4 : Nat) : Int)) = 16 := rfl
  have ht : (16 : Int).toNat = 16 := rfl
  simp only [hz, ht, Nat.reduceSub, hmin, takeN_eq]
  rw [List.take_of_length_le (Nat.le_refl x.length)]
  have e3 : overL (overL R 0 ((bigF 8 g ++ bigF 4 o) ++ bigF 4 (x.length : Int))) 16 x = overL R 0 (((bigF 8 g ++ bigF 4 o) ++ bigF 4 (x.length : Int)) ++ x) := by
    have := overL_over (x := R) (o := 0) (y := (bigF 8 g ++ bigF 4 o) ++ bigF 4 (x.length : Int)) (z := x) (by simp only [List.length_append]; omega)
    simp only [List.length_append, l8, lo4, ln4] at this; exact this
  rw [e3, wrap64 (by omega) (by omega)]
  have ht2 : (((16 : Int) + (x.length : Int))).toNat = 16 + x.length := by omega
  rw [ht2]
  have hsub : subL (overL R 0 (((bigF 8 g ++ bigF 4 o) ++ bigF 4 (x.length : Int)) ++ x)) 0 (16 + x.length) = ((bigF 8 g ++ bigF 4 o) ++ bigF 4 (x.length : Int)) ++ x := by
    rw [subL_eq, overL_eq, List.take_zero, List.nil_append, List.drop_zero]
    exact List.take_left' (by simp only [List.length_append]; omega)
  refine ct (and_mk hg (and_mk rfl (and_mk (pd_t (by omega)) (and_mk (pd_t (by omega)) (pd_t (by omega)))))) ?_
  refine ct (and_mk (okV_mk (by omega) (by omega)) (and_mk rfl (and_mk (pd_t (by omega)) (and_mk (pd_t (by omega)) (pd_t (by omega)))))) ?_
  refine ct (and_mk (okV_mk (by omega) (by omega)) (and_mk rfl (and_mk (pd_t (by omega)) (and_mk (pd_t (by omega)) (pd_t (by omega)))))) ?_
  refine ct (inB_mk (by omega) (by omega)) (ct (nblt_of (by omega)) (ct (nble_of (by omega)) (ct (inB_mk (by omega) (by omega)) ?_)))
  rw [hsub]
  have hokb : okB (((bigF 8 g ++ bigF 4 o) ++ bigF 4 (x.length : Int)) ++ x) = true := okB_app (okB_app (okB_app (bigF_okB _ _) (bigF_okB _ _)) (bigF_okB _ _)) hb
  refine ct (and_mk (pd_t (by rw [overL_len (by simp only [List.length_append]; omega)]; omega)) (and_mk (by rw [Nat.zero_add, hsub]; exact hokb) (pd_t (by omega)))) ?_
  unfold wSum
  rw [List.append_assoc, List.append_assoc]

end Go.Proofs.Ytpafnokcmhlbgaa

namespace Go.Proofs.Ytpafnokcmhlbgaa

open Go.Abs

theorem wEnc_app (g o : Int) (x y : List (List Cell)) : (((((x ++ [[Cell.int .u8 229]]) ++ bigF 4 (y.length : Int)) ++ y) ++ bigF 4 (wSum g o y)) ++ [[Cell.int .u8 255]]) = x ++ wEnc g o y := by
  simp [wEnc]

theorem wEnc_len (g o : Int) (y : List (List Cell)) : (wEnc g o y).length = y.length + 10 := by
  simp only [wEnc, List.length_cons, List.length_append, bigF_len, List.length_nil]; omega

theorem wEnc_okB (g o : Int) {y : List (List Cell)} (h : okB y = true) : okB (wEnc g o y) = true := by
  have h1 : okB (([] : List (List Cell)) ++ wEnc g o y) = true := by
    rw [← wEnc_app]
    exact okB_app (okB_app (okB_app (okB_app (by decide) (bigF_okB _ _)) h) (bigF_okB _ _)) (by decide)
  simpa using h1

theorem k63 (g o : Int) (y : List (List Cell)) (hg : okV g = true) (ho0 : 0 ≤ o) (ho : o ≤ 4611686018427387904) (hb : okB y = true) (hy : y.length ≤ 30000) :
    runF E (callOf L77) 1 63 [.one (.nils), .one (.int .u64 g), .one (.int .i64 o), .one (.sl false 5 y)] [] = some ([.one (.msl 5 0 (wEnc g o y).length)], [.arr 5 (wEnc g o y)]) := by
  rw [e63]
  rw [show Int.toNat 4 = 4 from rfl]
  have hw := wSum_range g o y
  rw [wrapu (n := (y.length : Int)) (by omega) (by omega), wrapu (n := wSum g o y) (by omega) (by omega)]
  have hl1 := bigF_len 4 (y.length : Int)
  have hl2 := bigF_len 4 (wSum g o y)
  refine ct (and_mk (okV_mk (by omega) (by omega)) (and_mk rfl (and_mk (nbeq_of rfl) (pd_t (by simp))))) ?_
  refine ct (nbeq_of (by simp [hl1] <;> omega)) (ct (fits_mk (by simp [hl1]; omega)) (ct (and_mk hg (and_mk hb (and_mk (pd_t ho0) (and_mk (pd_t ho) (pd_t hy))))) ?_))
  refine ct (and_mk (okV_mk (by omega) (by omega)) (and_mk rfl (and_mk (nbeq_of (by simp [hl1] <;> omega)) (pd_t (by simp [hl1]; omega))))) ?_
  refine ct (nbeq_of (by simp [hl1, hl2] <;> omega)) (ct (fits_mk (by simp [hl1, hl2]; omega)) ?_)
  rw [wEnc_app]
  have e : (([] ++ [[Cell.int .u8 229]] ++ bigF 4 (y.length : Int) ++ y ++ bigF 4 (wSum g o y)).length + [[Cell.int .u8 255]].length) = (wEnc g o y).length := by
    rw [wEnc_len]; simp [hl1, hl2]; omega
  rw [e]
  rfl

theorem k63b (n : Nat) (g o : Int) (x y : List (List Cell)) (hg : okV g = true) (ho0 : 0 ≤ o) (ho : o ≤ 4611686018427387904) (hb : okB y = true) (hy : y.length ≤ 30000) (hn : n = x.length) (hx : x.length ≤ 900000) :
    runF E (callOf L77) 1 63 [.one (.msl 5 0 n), .one (.int .u64 g), .one (.int .i64 o), .one (.sl false 5 y)] [.arr 5 x] = some ([.one (.msl 5 1 (x ++ wEnc g o y).length)], [.dead, .arr 5 (x ++ wEnc g o y)]) := by
  rw [e63_c1]
  rw [show Int.toNat 4 = 4 from rfl]
  have hw := wSum_range g o y
  rw [wrapu (n := (y.length : Int)) (by omega) (by omega), wrapu (n := wSum g o y) (by omega) (by omega)]
  have hl1 := bigF_len 4 (y.length : Int)
  have hl2 := bigF_len 4 (wSum g o y)
  refine ct (nbeq_of hn) (ct (fits_mk (by simp; omega)) ?_)
  refine ct (and_mk (okV_mk (by omega) (by omega)) (and_mk rfl (and_mk (nbeq_of (by simp [hl1] <;> omega)) (pd_t (by simp; omega))))) ?_
  refine ct (nbeq_of (by simp [hl1] <;> omega)) (ct (fits_mk (by simp [hl1]; omega)) (ct (and_mk hg (and_mk hb (and_mk (pd_t ho0) (and_mk (pd_t ho) (pd_t hy))))) ?_))
  refine ct (and_mk (okV_mk (by omega) (by omega)) (and_mk rfl (and_mk (nbeq_of (by simp [hl1] <;> omega)) (pd_t (by simp [hl1]; omega))))) ?_
  refine ct (nbeq_of (by simp [hl1, hl2] <;> omega)) (ct (fits_mk (by simp [hl1, hl2]; omega)) ?_)
  rw [wEnc_app]
  have e : ((x ++ [[Cell.int .u8 229]] ++ bigF 4 (y.length : Int) ++ y ++ bigF 4 (wSum g o y)).length + [[Cell.int .u8 255]].length) = (x ++ wEnc g o y).length := by
    have hq : (x ++ wEnc g o y).length = x.length + (y.length + 10) := by rw [List.length_append, wEnc_len]
    rw [hq]; simp [hl1, hl2]; omega
  rw [e]

theorem k74 (x : List (List Cell)) (g o : Int) (hg : okV g = true) (hb : okB x = true) (hx : x.length ≤ 1000000) (ho0 : 0 ≤ o) (ho : o ≤ x.length) :
    runF E (callOf L63) 1 74 [.one (.sl false 5 x), .one (.int .u64 g), .one (.int .i64 o)] [] = some ([.one (.sl false 5 (recB g o (x.drop (Int.toNat o))).1), .one (.bool (recB g o (x.drop (Int.toNat o))).2)], []) := by
  rw [e74]
  dsimp only
  rw [dropN_eq]
  refine ct (inB_le ho0 ho) ?_
  have hbb : okB (x.drop (Int.toNat o)) = true := okB_drop hb _
  have hbl : (x.drop (Int.toNat o)).length ≤ 1000000 := by rw [List.length_drop]; omega
  generalize x.drop (Int.toNat o) = b at hbb hbl
  unfold recB
  by_cases h1 : (b.length : Int) ≤ 10
  · rw [if_pos (.inl (by omega))]
    exact ct (decide_eq_true h1) rfl
  refine cf (decide_eq_false h1) (ct (inB_mk (by omega) (by omega)) ?_)
  by_cases h2 : nr (Abs.rowAt b 0) 0 = 229
  rotate_left
  · rw [if_pos (.inr h2)]
    exact ct (by simpa using h2) rfl
  rw [if_neg (by omega)]
  refine cf (by simpa using h2) (ct (inB_le (by omega) (by omega)) (ct (and_mk (okB_sub hbb _ _) (pd_t (by rw [subL_len (by omega)]; omega))) ?_))
  have hr := wNum_range hbb (i := 1) (j := 5) (by omega) (by omega)
  rw [show (5 - 1 : Nat) = 4 from rfl, pow4] at hr
  change 0 ≤ numF 0 (subL b 1 5) ∧ numF 0 (subL b 1 5) < 4294967296 at hr
  have hn : wNum b 1 5 = numF 0 (subL b 1 5) := rfl
  rw [hn]
  generalize numF 0 (subL b 1 5) = n at hr
  by_cases h3 : n < 1
  · rw [if_pos (.inl h3)]
    exact ct (decide_eq_true h3) rfl
  refine cf (decide_eq_false h3) ?_
  by_cases h4 : 30000 < n
  · rw [if_pos (.inr (.inl h4))]
    exact ct (decide_eq_true h4) rfl
  refine cf (decide_eq_false h4) ?_
  rw [wrap64 (n := n) (by omega) (by omega), wrap64 (n := (b.length : Int) - 10) (by omega) (by omega), wrap64 (n := 5 + n) (by omega) (by omega), wrap64 (n := 5 + n + 4) (by omega) (by omega)]
  by_cases h5 : (b.length : Int) - 10 < n
  · rw [if_pos (.inr (.inr h5))]
    exact ct (decide_eq_true h5) rfl
  rw [if_neg (by omega)]
  refine cf (decide_eq_false h5) ?_
  have t1 : (5 + n).toNat = 5 + n.toNat := by omega
  have t2 : (5 + n + 4).toNat = 9 + n.toNat := by omega
  rw [t1, t2]
  have s1 : (subL b 5 (5 + n.toNat)).length = n.toNat := by rw [subL_len (by omega)]; omega
  have s2 : (subL b (5 + n.toNat) (9 + n.toNat)).length = 4 := by rw [subL_len (by omega)]; omega
  simp only [List.nil_append]
  have hw := wSum_range g o (subL b 5 (5 + n.toNat))
  rw [wrapu (n := wSum g o (subL b 5 (5 + n.toNat))) (by omega) (by omega)]
  refine ct (inB_le (by omega) (by omega)) (ct (inB_le (by omega) (by omega)) (ct (fits_mk (by simp; omega)) (ct (inB_le (by omega) (by omega)) (ct (inB_le (by omega) (by omega)) ?_))))
  refine ct (and_mk (okB_sub hbb _ _) (pd_t (by omega))) (ct (and_mk hg (and_mk (okB_sub hbb _ _) (and_mk (pd_t ho0) (and_mk (pd_t (by omega)) (pd_t (by omega)))))) ?_)
  have hq : wNum b (5 + n.toNat) (9 + n.toNat) = numF 0 (subL b (5 + n.toNat) (9 + n.toNat)) := rfl
  rw [hq]
  by_cases h6 : numF 0 (subL b (5 + n.toNat) (9 + n.toNat)) = wSum g o (subL b 5 (5 + n.toNat))
  · refine ct (by simpa using h6) (ct (inB_mk (by omega) (by omega)) ?_)
    rw [decide_eq_true h6, Bool.true_and]
    refine congrArg (fun z => some ([AV.one (.sl false 5 (subL b 5 (5 + n.toNat))), AV.one (AC.bool z)], ([] : List Block))) ?_
    cases hc : decide (nr (Abs.rowAt b (9 + n.toNat)) 0 = 255) with
    | true => simpa using hc
    | false => simpa using hc
  · refine cf (by simpa using h6) ?_
    rw [decide_eq_false h6, Bool.false_and]

theorem recB_len {g o : Int} {b : List (List Cell)} (hb : okB b = true) (h : (recB g o b).2 = true) : 1 ≤ (recB g o b).1.length ∧ (recB g o b).1.length ≤ 30000 ∧ (recB g o b).1.length + 10 ≤ b.length := by
  unfold recB at h ⊢
  split at h
  · cases h
  · split at h
    · cases h
    · rename_i h1 h2
      rw [if_neg h1, if_neg h2]
      have hr := wNum_range hb (i := 1) (j := 5) (by omega) (by omega)
      dsimp only
      rw [subL_len (by omega)]
      omega

theorem scanF_fuel {g : Int} : ∀ {b : List (List Cell)} (_ : okB b = true) (k j : Nat) {o : Int}, b.length ≤ k → b.length ≤ j → scanF j g o b = scanF k g o b := by
  intro b hb k
  induction k generalizing b with
  | zero =>
    intro j o hk hj
    have hb0 : b = [] := List.eq_nil_of_length_eq_zero (by omega)
    subst hb0
    cases j with
    | zero => rfl
    | succ j => simp [scanF, recB]
  | succ k ih =>
    intro j o hk hj
    cases j with
    | zero =>
      have hb0 : b = [] := List.eq_nil_of_length_eq_zero (by omega)
      subst hb0
      simp [scanF, recB]
    | succ j =>
      simp only [scanF]
      split
      · rename_i hc
        have hl := recB_len hb hc
        have := ih (b := b.drop ((recB g o b).1.length + 10)) (okB_drop hb _) j (o := o + (recB g o b).1.length + 10) (by rw [List.length_drop]; omega) (by rw [List.length_drop]; omega)
        rw [this]
      · rfl

theorem l52_0 (x : List (List Cell)) (g : Int) (hg : okV g = true) (hb : okB x = true) (hx : x.length ≤ 1000000) : ∀ (d i : Nat) (acc : List (List Cell)), i + d = x.length → acc.length ≤ i →
    ∃ m, goF E (callOf L74) F52 0 m P52_0 (M52_0 x g acc i) = some ([.one (.sl true 22 (acc ++ (scanF d g i (x.drop i)).1)), .one (.int .i64 (scanF d g i (x.drop i)).2)], []) := by
  intro d
  induction d using Nat.strongRecOn with
  | ind d ih =>
    intro i acc h ha
    have hg1 : (okV g && (okBl x && (pd ((0 : Int) ≤ (i : Int)) && pd ((i : Int) ≤ (x.length : Int))))) = true := and_mk hg (and_mk (and_mk hb (pd_t hx)) (and_mk (pd_t (by omega)) (pd_t (by omega))))
    have hbd : okB (x.drop i) = true := okB_drop hb i
    have hld : (x.drop i).length = d := by rw [List.length_drop]; omega
    cases hc : (recB g i (x.drop i)).2 with
    | false =>
      refine ⟨1, ?_⟩
      rw [e52_0, Int.toNat_natCast]
      refine ct hg1 (ct (by rw [hc]; rfl) ?_)
      cases d with
      | zero => simp [scanF]
      | succ d => simp [scanF, hc]
    | true =>
      have hl := recB_len hbd hc
      rw [hld] at hl
      cases d with
      | zero => omega
      | succ d =>
        obtain ⟨m, hm⟩ := ih (d + 1 - ((recB g i (x.drop i)).1.length + 10)) (by omega) (i + ((recB g i (x.drop i)).1.length + 10)) (acc ++ [wRow (recB g i (x.drop i)).1]) (by omega) (by simp; omega)
        refine ⟨m + 1, ?_⟩
        rw [e52_0, Int.toNat_natCast]
        refine ct hg1 (cf (by rw [hc]; rfl) (ct (fits_mk (by simp; omega)) ?_))
        rw [wrap64 (n := ((recB g i (x.drop i)).1.length : Int) + 10) (by omega) (by omega), wrap64 (by omega) (by omega)]
        have e1 : (i : Int) + (((recB g i (x.drop i)).1.length : Int) + 10) = ((i + ((recB g i (x.drop i)).1.length + 10) : Nat) : Int) := by omega
        rw [e1]
        refine hm.trans ?_
        have fuel : ∀ (k : Nat), d + 1 - ((recB g i (x.drop i)).1.length + 10) ≤ k → scanF k g ((i + ((recB g i (x.drop i)).1.length + 10) : Nat) : Int) (x.drop (i + ((recB g i (x.drop i)).1.length + 10))) =
            scanF (d + 1 - ((recB g i (x.drop i)).1.length + 10)) g ((i + ((recB g i (x.drop i)).1.length + 10) : Nat) : Int) (x.drop (i + ((recB g i (x.drop i)).1.length + 10))) := fun k hk =>
          scanF_fuel (okB_drop hb _) _ k (by rw [List.length_drop]; omega) (by rw [List.length_drop]; omega)
        have e2 := fuel d (by omega)
        have e3 : scanF (d + 1) g i (x.drop i) = (wRow (recB g i (x.drop i)).1 :: (scanF d g ((i + ((recB g i (x.drop i)).1.length + 10) : Nat) : Int) (x.drop (i + ((recB g i (x.drop i)).1.length + 10)))).1, (scanF d g ((i + ((recB g i (x.drop i)).1.length + 10) : Nat) : Int) (x.drop (i + ((recB g i (x.drop i)).1.length + 10)))).2) := by
          rw [scanF, if_pos hc, List.drop_drop]
          have e4 : (i : Int) + ((recB g i (x.drop i)).1.length : Int) + 10 = ((i + ((recB g i (x.drop i)).1.length + 10) : Nat) : Int) := by omega
          rw [e4]
        rw [e3, e2]
        simp

theorem k52 (x : List (List Cell)) (g : Int) (hg : okV g = true) (hb : okB x = true) (hx : x.length ≤ 1000000) : ∃ m, runF E (callOf L74) m 52 [.one (.sl false 5 x), .one (.int .u64 g)] [] = some ([.one (.sl true 22 (wScan g x).1), .one (.int .i64 (wScan g x).2)], []) := by
  obtain ⟨m, hm⟩ := l52_0 x g hg hb hx x.length 0 [] (by omega) (by simp)
  exact ⟨m + 1, by rw [e52]; simpa [wScan] using hm⟩

theorem l49_0 (x : List (List Cell)) (hx : x.length ≤ 1000000) : ∀ (d i : Nat), i + d = x.length → ∃ m, goF E (callOf L52) F49 0 m P49_0 (M49_0 x x.length i) = some ([.one (.bool (zeroB (x.drop i)))], [])
  | 0, i, h => by
    refine ⟨1, ?_⟩
    rw [e49_0, List.drop_eq_nil_of_le (by omega)]
    exact cf (decide_eq_false (by omega)) rfl
  | d + 1, i, h => by
    obtain ⟨m, hm⟩ := l49_0 x hx d (i + 1) (by omega)
    refine ⟨m + 1, ?_⟩
    rw [e49_0, drop_cons x i (by omega), Int.toNat_natCast]
    refine ct (decide_eq_true (by omega)) (ct (inB_nat' (by omega)) ?_)
    have e : zeroB (Abs.rowAt x i :: x.drop (i + 1)) = ((nr (Abs.rowAt x i) 0 == 0) && zeroB (x.drop (i + 1))) := rfl
    rw [e]
    by_cases h0 : nr (Abs.rowAt x i) 0 = 0
    · refine cf (by simp [h0]) ?_
      rw [wrap64 (by omega) (by omega), h0]
      simpa using hm
    · refine ct (by simpa using h0) ?_
      have : (nr (Abs.rowAt x i) 0 == 0) = false := by simpa using h0
      rw [this, Bool.false_and]

theorem k49 (x : List (List Cell)) (hx : x.length ≤ 1000000) : ∃ m, runF E (callOf L52) m 49 [.one (.sl false 5 x)] [] = some ([.one (.bool (zeroB x))], []) := by
  obtain ⟨m, hm⟩ := l49_0 x hx x.length 0 (by omega)
  exact ⟨m + 1, by rw [e49]; simpa using hm⟩

end Go.Proofs.Ytpafnokcmhlbgaa

namespace Go.Proofs.Ytpafnokcmhlbgaa

open Go.Abs

abbrev dV (un cn : Nat) (d : Dk) : Block := .var [.msl 5 1 un, .msl 5 2 cn, .sl true 85 d.q, .bool d.arm, .int .i64 d.left, .bool d.down]

abbrev dB (un cn : Nat) (d : Dk) : List Block := [dV un cn d, .arr 5 d.dur, .arr 5 d.cur]

theorem okDk_of {n m : Nat} {d : Dk} (h : okDk n m d = true) : n = d.dur.length ∧ m = d.cur.length ∧ DkOk d := by
  unfold okDk at h
  simp only [Bool.and_eq_true, decide_eq_true_eq] at h
  exact ⟨Nat.eq_of_beq_eq_true h.1, Nat.eq_of_beq_eq_true h.2.1, h.2.2⟩

theorem okDk_mk {n m : Nat} {d : Dk} (h1 : n = d.dur.length) (h2 : m = d.cur.length) (h : DkOk d) : okDk n m d = true := by
  unfold okDk
  simp only [Bool.and_eq_true, decide_eq_true_eq]
  exact ⟨nbeq_of h1, nbeq_of h2, h⟩

theorem okPc_of {n : Nat} {r : List Cell} (h : okPc n r = true) : 0 ≤ nr r 0 ∧ nr r 0 + (nl r 1).length ≤ n ∧ okB (nl r 1) = true := by
  unfold okPc at h
  simp only [Bool.and_eq_true] at h
  exact ⟨pd_of h.1, pd_of h.2.1, h.2.2⟩

theorem okPc_mk {n : Nat} {r : List Cell} (h0 : 0 ≤ nr r 0) (h1 : nr r 0 + (nl r 1).length ≤ n) (h2 : okB (nl r 1) = true) : okPc n r = true := and_mk (pd_t h0) (and_mk (pd_t h1) h2)

theorem secN_of (n : Int) : ((secN n : Nat) : Int) = (if (if 2048 < n then 2048 else n) > 1 then (if 2048 < n then 2048 else n) else 1) * 32 ∧ 32 ≤ secN n ∧ secN n ≤ 65536 ∧ secN n % 32 = 0 := by
  unfold secN
  refine ⟨?_, ?_, ?_, ?_⟩ <;> (repeat' split) <;> omega

theorem k12 (n : Int) : runF E (callOf L49) 1 12 [.one (.int .i64 n)] [] = some ([.one (.ptr 0 0)], dB (secN n) (secN n) (newDk n)) := by
  rw [e12]
  obtain ⟨h1, h2, h3, h4⟩ := secN_of n
  rw [← h1, wrap64 (n := ((secN n : Nat) : Int)) (by omega) (by omega)]
  have e1 : okMake ((secN n : Nat) : Int) ((secN n : Nat) : Int) = true := okMake_mk (by omega) (by omega)
  have e2 : Nat.blt 0 (secN n) = true := nblt_of (by omega)
  simp only [Int.toNat_natCast, e1, e2, cond_true, sameO_self]
  rfl

theorem k32 (un cn : Nat) (d : Dk) (h : okDk un cn d = true) : runF E (callOf L12) 1 32 [.one (.ptr 0 0)] (dB un cn d) = some ([.one (.int .i64 (secs d.dur))], dB un cn d) := by
  obtain ⟨hu, hc, hd⟩ := okDk_of h
  rw [e32]
  have h1 := hd.le
  have e : IntKind.wrap .i64 (Int.tdiv (un : Int) 32) = secs d.dur := by
    rw [hu, Int.tdiv_eq_ediv_of_nonneg (by omega)]
    unfold secs
    rw [wrap64 (by omega) (by omega)]
    omega
  rw [e]

theorem k38 (un cn : Nat) (d : Dk) : runF E (callOf L32) 1 38 [.one (.ptr 0 0)] (dB un cn d) = some ([.one (.bool d.down)], dB un cn d) := by rw [e38]

theorem k44 (o k : Int) (un cn : Nat) (d : Dk) (h : okDk un cn d = true) : runF E (callOf L38) 1 44 [.one (.ptr 0 0), .one (.int .i64 o), .one (.int .i64 k)] (dB un cn d) = some ([.one (.int .i64 (d.chk o k))], dB un cn d) := by
  obtain ⟨hu, hc, hd⟩ := okDk_of h
  have h1 := hd.le
  have h2 := hd.cd
  rw [e44]
  unfold Dk.chk
  by_cases hdn : d.down = true
  · rw [if_pos hdn]
    exact ct hdn rfl
  rw [if_neg hdn]
  refine cf (by simpa using hdn) ?_
  by_cases h3 : o < 0
  · rw [if_pos (.inl h3)]
    exact ct (decide_eq_true h3) rfl
  refine cf (decide_eq_false h3) ?_
  by_cases h4 : k < 0
  · rw [if_pos (.inr (.inl h4))]
    exact ct (decide_eq_true h4) rfl
  refine cf (decide_eq_false h4) ?_
  by_cases h5 : (d.cur.length : Int) < o
  · rw [if_pos (.inr (.inr (.inl h5)))]
    exact ct (decide_eq_true (by omega)) rfl
  refine cf (decide_eq_false (by omega)) ?_
  rw [wrap64 (n := (cn : Int) - o) (by omega) (by omega)]
  by_cases h6 : (d.cur.length : Int) - o < k
  · rw [if_pos (.inr (.inr (.inr h6)))]
    exact ct (decide_eq_true (by omega)) rfl
  · rw [if_neg (by omega)]
    exact cf (decide_eq_false (by omega)) rfl

theorem chk_of {d : Dk} {o n : Int} (h : d.chk o n = 0) : d.down = false ∧ 0 ≤ o ∧ 0 ≤ n ∧ o + n ≤ d.cur.length := by
  unfold Dk.chk at h
  split at h
  · cases h
  · split at h
    · cases h
    · rename_i h1 h2
      refine ⟨by simpa using h1, ?_, ?_, ?_⟩ <;> omega

theorem chk_mk {d : Dk} {o n : Int} (h : d.down = false) (h0 : 0 ≤ o) (h1 : 0 ≤ n) (h2 : o + n ≤ d.cur.length) : d.chk o n = 0 := by
  unfold Dk.chk
  rw [if_neg (by simp [h]), if_neg (by omega)]

theorem rd_of {d : Dk} {o n : Int} (h : d.chk o n = 0) : d.rd o n = subL d.cur o.toNat (o + n).toNat := by
  unfold Dk.rd
  rw [if_pos h]

theorem k35 (o k : Int) (un cn : Nat) (d : Dk) (h : okDk un cn d = true) : runF E (callOf L44) 1 35 [.one (.ptr 0 0), .one (.int .i64 o), .one (.int .i64 k)] (dB un cn d) = some ([.one (.sl false 5 (d.rd o k)), .one (.int .i64 (d.chk o k))], dB un cn d) := by
  obtain ⟨hu, hc, hd⟩ := okDk_of h
  have h1 := hd.le
  have h2 := hd.cd
  have h3 := hd.pos
  obtain ⟨du, cu, qu, am, lf, dn⟩ := d
  rw [e35]
  refine ct h ?_
  by_cases h0 : Dk.chk ⟨du, cu, qu, am, lf, dn⟩ o k = 0
  · have hh := chk_of h0
    rw [rd_of h0, h0]
    dsimp only at *
    rw [wrap64 (n := o + k) (by omega) (by omega)]
    refine cf rfl (ct (nblt_of (by omega)) (ct (inB_le (by omega) (by omega)) (ct (inB_le (by omega) (by omega)) (ct (nble_of (by omega)) (ct (fits_mk (by rw [subL_len (by omega)]; simp only [List.length_nil]; omega)) ?_)))))
    have e1 : 0 + o.toNat + ((o + k).toNat - o.toNat) = (o + k).toNat := by omega
    rw [e1, Nat.zero_add, List.nil_append]
  · refine ct (by simpa using h0) ?_
    unfold Dk.rd
    rw [if_neg h0]

theorem pcN_of {o : Int} {n : Nat} (h0 : 0 ≤ o) (hn : 0 < n) : 1 ≤ pcN o n ∧ pcN o n ≤ n ∧ (pcN o n : Int) ≤ 32 ∧ ((if IntKind.wrap .i64 (32 - Int.tmod o 32) < (n : Int) then IntKind.wrap .i64 (32 - Int.tmod o 32) else (n : Int)) = (pcN o n : Int)) := by
  unfold pcN
  rw [minN_eq, Int.tmod_eq_emod_of_nonneg h0, wrap64 (by omega) (by omega)]
  refine ⟨by omega, by omega, by omega, ?_⟩
  split <;> omega

theorem wrF_zero (k : Nat) (d : Dk) (o : Int) : wrF k d o [] = ⟨d, 0⟩ := by
  cases k <;> simp [wrF]

theorem l36 (un cn : Nat) : ∀ (k : Nat) (d : Dk) (o : Int) (x : List (List Cell)), x.length ≤ k → un = d.dur.length → cn = d.cur.length → d.cur.length ≤ 65536 → 0 ≤ o → o + x.length ≤ d.cur.length → d.q.length + x.length ≤ 4000000 → 0 ≤ d.left ∧ d.left ≤ 9223372036854775807 →
    ∃ m, goF E (callOf L35) F36 3 m P36_0 (M36_0 o x un cn d.q d.arm d.left d.down d.dur d.cur) = some ([.one (.int .i64 (wrF (k + 1) d o x).e)], dB un cn (wrF (k + 1) d o x).d) := by
  intro k
  induction k with
  | zero =>
    intro d o x hx hu hc hl h0 ho hq hlf
    have hx0 : x = [] := List.eq_nil_of_length_eq_zero (by omega)
    subst hx0
    refine ⟨1, ?_⟩
    rw [e36_0, wrF_zero]
    exact cf (decide_eq_false (by simp)) rfl
  | succ k ih =>
    intro d o x hx hu hc hl h0 ho hq hlf
    by_cases hx0 : x.length = 0
    · have hx0 : x = [] := List.eq_nil_of_length_eq_zero (by omega)
      subst hx0
      refine ⟨1, ?_⟩
      rw [e36_0, wrF_zero]
      exact cf (decide_eq_false (by simp)) rfl
    obtain ⟨p1, p2, p3, p4⟩ := pcN_of (o := o) (n := x.length) h0 (by omega)
    obtain ⟨du, cu, qu, am, lf, dn⟩ := d
    dsimp only at *
    rw [wrF, if_neg hx0]
    generalize hp : pcN o x.length = p at p1 p2 p3 p4
    have hol : (overL cu o.toNat (x.take p)).length = cu.length := overL_len (by rw [List.length_take]; omega)
    have hrec : ∀ (lf' : Int), (0 ≤ lf' ∧ lf' ≤ 9223372036854775807) → ∃ m, goF E (callOf L35) F36 3 m P36_0 (M36_0 (o + p) (x.drop p) un cn (qu ++ [pcR o (x.take p)]) am lf' dn du (overL cu o.toNat (x.take p))) =
        some ([.one (.int .i64 (wrF (k + 1) ⟨du, overL cu o.toNat (x.take p), qu ++ [pcR o (x.take p)], am, lf', dn⟩ (o + p) (x.drop p)).e)], dB un cn (wrF (k + 1) ⟨du, overL cu o.toNat (x.take p), qu ++ [pcR o (x.take p)], am, lf', dn⟩ (o + p) (x.drop p)).d) := fun lf' hlf' =>
      ih ⟨du, overL cu o.toNat (x.take p), qu ++ [pcR o (x.take p)], am, lf', dn⟩ (o + p) (x.drop p) (by simp; omega) hu (by simp [hol, hc]) (by simp [hol]; omega) (by omega) (by simp [hol]; omega) (by simp; omega) hlf'
    have step : ∀ (K : Option (List AV × List Block)) (cn' : Nat), cn' = cu.length → 
      (cond (Nat.blt 0 cn') (cond (inB (o + p) (cn' + 1)) (cond (decide (o + (p : Int) = o + p)) (cond (inB o ((Int.toNat (o + p)) + 1)) (cond (Nat.blt 0 cu.length) (cond (Nat.ble ((0 + o.toNat) + ((Int.toNat (o + p)) - o.toNat)) cu.length)
        (cond (inB (p : Int) (x.length + 1)) (cond (fits (([] : List (List Cell)).length + (x.take p).length)) (cond (fits (qu.length + [[Cell.int .i64 o, Cell.slice 5 (([] : List (List Cell)) ++ (x.take p))]].length)) (cond (inB (p : Int) (x.length + 1)) K none) none) none) none) none) none) none) none) none) none) = K := by
      intro K cn' hcn
      refine ct (nblt_of (by omega)) (ct (inB_le (by omega) (by omega)) (ct (decide_eq_true rfl) (ct (inB_le (by omega) (by omega)) (ct (nblt_of (by omega)) (ct (nble_of (by omega)) (ct (inB_le (by omega) (by omega)) (ct (fits_mk (by simp; omega)) (ct (fits_mk (by simp; omega)) (ct (inB_le (by omega) (by omega)) rfl)))))))))
    have hz : 0 + o.toNat = o.toNat := by omega
    have hmin : minN ((o + (p : Int)).toNat - o.toNat) x.length = p := by rw [minN_eq]; omega
    have fin : ∀ (lf' : Int), (0 ≤ lf' ∧ lf' ≤ 9223372036854775807) → ∃ m, goF E (callOf L35) F36 3 m P36_0 (M36_0 (o + p) (dropN x p) un cn (qu ++ [[Cell.int .i64 o, Cell.slice 5 (([] : List (List Cell)) ++ (takeN x p))]]) am lf' dn du (overL cu (0 + o.toNat) (takeN x (minN ((o + (p : Int)).toNat - o.toNat) x.length)))) =
        some ([.one (.int .i64 (wrF (k + 1) ⟨du, overL cu o.toNat (x.take p), qu ++ [pcR o (x.take p)], am, lf', dn⟩ (o + p) (x.drop p)).e)], dB un cn (wrF (k + 1) ⟨du, overL cu o.toNat (x.take p), qu ++ [pcR o (x.take p)], am, lf', dn⟩ (o + p) (x.drop p)).d) := by
      intro lf' hlf'
      rw [hz, hmin, takeN_eq, dropN_eq, List.nil_append]
      exact hrec lf' hlf'
    cases am with
    | true =>
      by_cases h3 : lf = 0
      · refine ⟨1, ?_⟩
        rw [e36_0, if_pos ⟨rfl, h3⟩]
        exact ct (decide_eq_true (by omega)) (ct rfl (ct (by simp [h3]) rfl))
      · rw [if_neg (by simp [h3]), if_pos rfl]
        obtain ⟨m, hm⟩ := fin (lf - 1) (by omega)
        refine ⟨m + 1, ?_⟩
        rw [e36_0]
        dsimp only
        rw [p4, wrap64 (n := o + (p : Int)) (by omega) (by omega), wrap64 (n := lf - 1) (by omega) (by omega), Int.toNat_natCast]
        refine ct (decide_eq_true (by omega)) (ct rfl (cf (by simpa using h3) (ct rfl ?_)))
        rw [← takeN_eq] at step
        exact (step _ cn hc).trans hm
    | false =>
      rw [if_neg (by simp), if_neg (by simp)]
      obtain ⟨m, hm⟩ := fin lf hlf
      refine ⟨m + 1, ?_⟩
      rw [e36_0]
      dsimp only
      rw [p4, wrap64 (n := o + (p : Int)) (by omega) (by omega), Int.toNat_natCast]
      refine ct (decide_eq_true (by omega)) (cf rfl (cf rfl ?_))
      rw [← takeN_eq] at step
      exact (step _ cn hc).trans hm

theorem k36 (o : Int) (x : List (List Cell)) (un cn : Nat) (d : Dk) (h : okDk un cn d = true) (hx : okB x = true) (hq : d.q.length + x.length ≤ 4000000) : ∃ m, runF E (callOf L35) m 36 [.one (.ptr 0 0), .one (.int .i64 o), .one (.sl false 5 x)] (dB un cn d) =
    some ([.one (.int .i64 (d.write o x).e)], dB un cn (d.write o x).d) := by
  obtain ⟨hu, hc, hd⟩ := okDk_of h
  have h1 := hd.le
  have h2 := hd.cd
  unfold Dk.write
  by_cases h0 : d.chk o x.length = 0
  · have hh := chk_of h0
    rw [if_neg (by simp [h0])]
    obtain ⟨m, hm⟩ := l36 un cn x.length d o x (Nat.le_refl _) hu hc (by omega) hh.2.1 hh.2.2.2 hq hd.left
    refine ⟨m + 1, ?_⟩
    rw [e36]
    exact ct h (cf (by simpa using h0) hm)
  · rw [if_pos h0]
    refine ⟨1, ?_⟩
    rw [e36]
    exact ct h (ct (by simpa using h0) rfl)

theorem putR_len {b : List (List Cell)} {r : List Cell} {n : Nat} (h : okPc n r = true) (hn : n = b.length) : (putR b r).length = b.length := by
  have := okPc_of h
  exact overL_len (by omega)

theorem putR_okB {b : List (List Cell)} {r : List Cell} {n : Nat} (h : okPc n r = true) (hb : okB b = true) : okB (putR b r) = true := okB_over hb (okPc_of h).2.2 _

theorem putQ_len {n : Nat} : ∀ {q b : List (List Cell)}, (∀ r ∈ q, okPc n r = true) → n = b.length → (putQ b q).length = b.length
  | [], _, _, _ => rfl
  | r :: q, b, h, hn => by
    have h1 := putR_len (h r (List.mem_cons_self)) hn
    rw [putQ, putQ_len (n := n) (fun s hs => h s (List.mem_cons_of_mem _ hs)) (by omega), h1]

theorem putQ_okB {n : Nat} : ∀ {q b : List (List Cell)}, (∀ r ∈ q, okPc n r = true) → okB b = true → okB (putQ b q) = true
  | [], _, _, hb => hb
  | r :: q, b, h, hb => putQ_okB (q := q) (fun s hs => h s (List.mem_cons_of_mem _ hs)) (putR_okB (h r List.mem_cons_self) hb)

theorem put_eq {b : List (List Cell)} {r : List Cell} {n : Nat} (h : okPc n r = true) (hn : n = b.length) : overL b (0 + (nr r 0).toNat) (takeN (nl r 1) (minN (n - (nr r 0).toNat) (nl r 1).length)) = putR b r := by
  have := okPc_of h
  rw [minN_eq, takeN_eq, Nat.zero_add, List.take_of_length_le (by omega)]
  rfl

theorem l20 (un cn : Nat) (d : Dk) : ∀ (k i : Nat) (b : List (List Cell)), i + k = d.q.length → d.q.length ≤ 4000000 → un = b.length → 0 < un → (∀ r ∈ d.q, okPc un r = true) →
    ∃ m, goF E (callOf L36) F20 3 m P20_0 (M20_0 d.q d.q.length i un cn d.q d.arm d.left d.down b d.cur) = some ([.one (.int .i64 0)], dB un cn ⟨putQ b (d.q.drop i), d.cur, [], d.arm, d.left, d.down⟩) := by
  intro k
  induction k with
  | zero =>
    intro i b h hq hb hp hr
    refine ⟨1, ?_⟩
    rw [e20_0, List.drop_eq_nil_of_le (by omega)]
    exact cf (decide_eq_false (by omega)) rfl
  | succ k ih =>
    intro i b h hq hb hp hr
    have hm : Abs.rowAt d.q i ∈ d.q := by
      have : d.q.drop i = Abs.rowAt d.q i :: d.q.drop (i + 1) := drop_cons d.q i (by omega)
      exact List.mem_of_mem_drop (this ▸ List.mem_cons_self : Abs.rowAt d.q i ∈ d.q.drop i)
    have hpc := hr _ hm
    have hh := okPc_of hpc
    obtain ⟨m, hm⟩ := ih (i + 1) (putR b (Abs.rowAt d.q i)) (by omega) hq (by rw [putR_len hpc hb]; exact hb) hp hr
    refine ⟨m + 1, ?_⟩
    rw [e20_0, drop_cons d.q i (by omega), putQ, Int.toNat_natCast, put_eq hpc hb, wrap64 (n := (i : Int) + 1) (by omega) (by omega)]
    refine ct (decide_eq_true (by omega)) (ct (inB_nat' (by omega)) (ct (nblt_of hp) (ct (inB_le (by omega) (by omega)) (ct (nblt_of (by omega)) (ct (nble_of (by omega)) ?_)))))
    exact_mod_cast hm

theorem k20 (un cn : Nat) (d : Dk) (h : okDk un cn d = true) : ∃ m, runF E (callOf L36) m 20 [.one (.ptr 0 0)] (dB un cn d) = some ([.one (.int .i64 d.sync.e)], dB un cn d.sync.d) := by
  obtain ⟨hu, hc, hd⟩ := okDk_of h
  have h3 := hd.pos
  unfold Dk.sync
  by_cases hdn : d.down = true
  · rw [if_pos hdn]
    refine ⟨1, ?_⟩
    rw [e20]
    have e : Dk.chk d 0 0 = 15 := by unfold Dk.chk; rw [if_pos hdn]
    exact ct h (ct (by rw [e]; rfl) (by rw [e]))
  · rw [if_neg hdn]
    obtain ⟨m, hm⟩ := l20 un cn d d.q.length 0 d.dur (by omega) hd.ql hu (by omega) (fun r hr => hu ▸ hd.q r hr)
    refine ⟨m + 1, ?_⟩
    rw [e20]
    have e : Dk.chk d 0 0 = 0 := chk_mk (by simpa using hdn) (by omega) (by omega) (by omega)
    exact ct h (cf (by rw [e]; rfl) hm)

theorem k39 (k : Int) (un cn : Nat) (d : Dk) : runF E (callOf L20) 1 39 [.one (.ptr 0 0), .one (.int .i64 k)] (dB un cn d) = some ([], dB un cn (d.fail k)) := by
  obtain ⟨du, cu, qu, am, lf, dn⟩ := d
  rw [e39]
  cases dn with
  | true => rfl
  | false => rfl

theorem keepN_of (k : Int) (n : Nat) : keepN k n ≤ n ∧ (if (if (n : Int) < k then (n : Int) else k) > 0 then (if (n : Int) < k then (n : Int) else k) else 0) = (keepN k n : Int) := by
  unfold keepN
  refine ⟨?_, ?_⟩ <;> (repeat' split) <;> omega

theorem torn_ok {n : Nat} {r : List Cell} (h : okPc n r = true) (t : Int) : okPc n (tornR r t) = true := by
  have := okPc_of h
  have hk := (keepN_of t (nl r 1).length).1
  refine okPc_mk ?_ ?_ ?_
  · exact this.1
  · show nr r 0 + (List.length ((nl r 1).take _) : Int) ≤ n
    rw [List.length_take]; omega
  · exact okB_take this.2.2 _

theorem crashB_len {d : Dk} (hd : DkOk d) (k t : Int) : (crashB d k t).length = d.dur.length := by
  have h1 : ∀ j, (putQ d.dur (d.q.take j)).length = d.dur.length := fun j => putQ_len (n := d.dur.length) (fun r hr => hd.q r (List.mem_of_mem_take hr)) rfl
  unfold crashB
  split
  · rename_i hk
    have hm : Abs.rowAt d.q (keepN k d.q.length) ∈ d.q := by
      have : d.q.drop (keepN k d.q.length) = Abs.rowAt d.q (keepN k d.q.length) :: d.q.drop (keepN k d.q.length + 1) := drop_cons d.q _ hk
      exact List.mem_of_mem_drop (this ▸ List.mem_cons_self : Abs.rowAt d.q (keepN k d.q.length) ∈ d.q.drop (keepN k d.q.length))
    rw [putR_len (torn_ok (hd.q _ hm) t) (h1 _).symm, h1]
  · exact h1 _

theorem crashB_okB {d : Dk} (hd : DkOk d) (k t : Int) : okB (crashB d k t) = true := by
  have h1 : ∀ j, okB (putQ d.dur (d.q.take j)) = true := fun j => putQ_okB (n := d.dur.length) (fun r hr => hd.q r (List.mem_of_mem_take hr)) hd.bd
  unfold crashB
  split
  · rename_i hk
    have hm : Abs.rowAt d.q (keepN k d.q.length) ∈ d.q := by
      have : d.q.drop (keepN k d.q.length) = Abs.rowAt d.q (keepN k d.q.length) :: d.q.drop (keepN k d.q.length + 1) := drop_cons d.q _ hk
      exact List.mem_of_mem_drop (this ▸ List.mem_cons_self : Abs.rowAt d.q (keepN k d.q.length) ∈ d.q.drop (keepN k d.q.length))
    exact putR_okB (torn_ok (hd.q _ hm) t) (h1 _)
  · exact h1 _

theorem over_all {a b : List (List Cell)} (h : a.length = b.length) : overL a 0 b = b := by
  rw [overL_eq]
  simp [h]

theorem l40 (un cn : Nat) (d : Dk) (hd : DkOk d) (hu : un = d.dur.length) (hc : cn = d.cur.length) (k t : Int) : ∀ (j i : Nat) (b : List (List Cell)), i + j = keepN k d.q.length → b = putQ d.dur (d.q.take i) →
    ∃ m, goF E (callOf L39) F40 3 m P40_0 (M40_0 (keepN k d.q.length : Nat) (d.q.take (keepN k d.q.length)) ((d.q.take (keepN k d.q.length)).length : Nat) i un cn d.q d.arm d.left d.down b d.cur k t) = some ([], dB un cn (d.crash k t)) := by
  have hk := (keepN_of k d.q.length).1
  have hql := hd.ql
  have hps := hd.pos
  have hcd := hd.cd
  intro j
  induction j with
  | zero =>
    intro i b h hb
    have hi : i = keepN k d.q.length := by omega
    subst hi
    have hbl : b.length = d.dur.length := by rw [hb]; exact putQ_len (n := d.dur.length) (fun r hr => hd.q r (List.mem_of_mem_take hr)) rfl
    refine ⟨1, ?_⟩
    rw [e40_0]
    dsimp only
    refine cf (decide_eq_false (by rw [List.length_take]; omega)) ?_
    have hcl := crashB_len hd k t
    unfold Dk.crash
    by_cases h1 : keepN k d.q.length < d.q.length
    · have hm : Abs.rowAt d.q (keepN k d.q.length) ∈ d.q := by
        have : d.q.drop (keepN k d.q.length) = Abs.rowAt d.q (keepN k d.q.length) :: d.q.drop (keepN k d.q.length + 1) := drop_cons d.q _ h1
        exact List.mem_of_mem_drop (this ▸ List.mem_cons_self : Abs.rowAt d.q (keepN k d.q.length) ∈ d.q.drop (keepN k d.q.length))
      have hpc := hd.q _ hm
      have hh := okPc_of hpc
      have hcr : crashB d k t = putR b (tornR (Abs.rowAt d.q (keepN k d.q.length)) t) := by
        unfold crashB
        rw [if_pos h1, ← hb]
      rw [hcr] at hcl ⊢
      rw [Int.toNat_natCast, (keepN_of t _).2, Int.toNat_natCast]
      have hkt := (keepN_of t (nl (Abs.rowAt d.q (keepN k d.q.length)) 1).length).1
      have e := put_eq (torn_ok hpc t) (n := d.dur.length) (b := b) hbl.symm
      rw [show nr (tornR (Abs.rowAt d.q (keepN k d.q.length)) t) 0 = nr (Abs.rowAt d.q (keepN k d.q.length)) 0 from rfl, show nl (tornR (Abs.rowAt d.q (keepN k d.q.length)) t) 1 = (nl (Abs.rowAt d.q (keepN k d.q.length)) 1).take (keepN t (nl (Abs.rowAt d.q (keepN k d.q.length)) 1).length) from rfl] at e
      simp only [takeN_eq] at e ⊢
      rw [hu, e]
      refine ct (decide_eq_true (by omega)) (ct (inB_nat' h1) (ct (nblt_of (by omega)) (ct (inB_le (by omega) (by omega)) (ct (inB_le (by omega) (by omega)) (ct (nblt_of (by omega)) (ct (nble_of (by omega)) (ct (nbeq_of hcl.symm) (ct (nblt_of (by omega)) (ct (nblt_of (by omega)) (ct (nble_of (by omega)) ?_))))))))))
      rw [minN_eq, List.take_of_length_le (by omega), over_all (by omega)]
    · have hcr : crashB d k t = b := by
        unfold crashB
        rw [if_neg h1, ← hb]
      rw [hcr]
      refine cf (decide_eq_false (by omega)) (ct (nbeq_of (by omega)) (ct (nblt_of (by omega)) (ct (nblt_of (by omega)) (ct (nble_of (by omega)) ?_))))
      rw [minN_eq, takeN_eq, List.take_of_length_le (by omega), over_all (by omega)]
  | succ j ih =>
    intro i b h hb
    have hi : i < d.q.length := by omega
    have hdc : d.q.drop i = Abs.rowAt d.q i :: d.q.drop (i + 1) := drop_cons d.q i hi
    have hm : Abs.rowAt d.q i ∈ d.q := List.mem_of_mem_drop (hdc ▸ List.mem_cons_self : Abs.rowAt d.q i ∈ d.q.drop i)
    have hpc := hd.q _ hm
    have hh := okPc_of hpc
    have hbl : b.length = d.dur.length := by rw [hb]; exact putQ_len (n := d.dur.length) (fun r hr => hd.q r (List.mem_of_mem_take hr)) rfl
    have hta : d.q.take (i + 1) = d.q.take i ++ [Abs.rowAt d.q i] := by
      have e1 : d.q.take (i + 1) = d.q.take i ++ (d.q.drop i).take 1 := List.take_add
      rw [e1, hdc]; rfl
    have hpa : ∀ (p : List (List Cell)) (b : List (List Cell)) (r : List Cell), putQ b (p ++ [r]) = putR (putQ b p) r := by
      intro p
      induction p with
      | nil => intro b r; rfl
      | cons s p ih => intro b r; exact ih (putR b s) r
    obtain ⟨m, hm⟩ := ih (i + 1) (putR b (Abs.rowAt d.q i)) (by omega) (by rw [hta, hpa, hb])
    have hrow : Abs.rowAt (d.q.take (keepN k d.q.length)) i = Abs.rowAt d.q i := by
      have h2 := drop_cons (d.q.take (keepN k d.q.length)) i (by rw [List.length_take]; omega)
      rw [List.drop_take, hdc, show keepN k d.q.length - i = (keepN k d.q.length - i - 1) + 1 by omega, List.take_succ_cons] at h2
      exact (List.cons.inj h2).1.symm
    refine ⟨m + 1, ?_⟩
    have hpe := put_eq hpc hbl.symm
    rw [e40_0]
    dsimp only
    rw [Int.toNat_natCast, Int.toNat_natCast, hrow, hu, hpe, wrap64 (n := (i : Int) + 1) (by omega) (by omega)]
    refine ct (decide_eq_true (by rw [List.length_take]; omega)) (ct (inB_nat' (by rw [List.length_take]; omega)) (ct (nblt_of (by omega)) (ct (inB_le (by omega) (by omega)) (ct (nblt_of (by omega)) (ct (nble_of (by omega)) ?_)))))
    rw [hu] at hm
    exact_mod_cast hm

theorem k40 (k t : Int) (un cn : Nat) (d : Dk) (h : okDk un cn d = true) : ∃ m, runF E (callOf L39) m 40 [.one (.ptr 0 0), .agg [.int .i64 k, .int .i64 t]] (dB un cn d) = some ([], dB un cn (d.crash k t)) := by
  obtain ⟨hu, hc, hd⟩ := okDk_of h
  have hk := keepN_of k d.q.length
  obtain ⟨m, hm⟩ := l40 un cn d hd hu hc k t (keepN k d.q.length) 0 d.dur (by omega) (by simp [putQ])
  refine ⟨m + 1, ?_⟩
  rw [e40, hk.2, Int.toNat_natCast, takeN_eq]
  exact ct (inB_le (by omega) (by omega)) (by exact_mod_cast hm)

theorem k24 (un cn : Nat) (d : Dk) (h : okDk un cn d = true) : runF E (callOf L40) 1 24 [.one (.ptr 0 0)] (dB un cn d) = some ([.one (.str d.all)], dB un cn d) := by
  obtain ⟨hu, hc, hd⟩ := okDk_of h
  have h1 := hd.le
  have h2 := hd.cd
  have h3 := hd.sec
  rw [e24]
  refine ct h (ct h ?_)
  have e : Dk.rd d 0 (IntKind.wrap .i64 (secs d.dur * 32)) = if d.down = true then [] else d.cur := by
    unfold secs
    rw [wrap64 (by omega) (by omega)]
    by_cases hdn : d.down = true
    · unfold Dk.rd Dk.chk
      simp [hdn]
    · rw [rd_of (chk_mk (by simpa using hdn) (by omega) (by omega) (by omega)), if_neg hdn, subL_eq, List.take_of_length_le (by omega)]
      rfl
  have e2 : (Dk.mk d.dur d.cur d.q d.arm d.left d.down) = d := rfl
  rw [e2, e]
  unfold Dk.all
  split <;> rfl

end Go.Proofs.Ytpafnokcmhlbgaa

namespace Go.Proofs.Ytpafnokcmhlbgaa

open Go.Abs

structure Kept (a b : Dk) (k : Nat) : Prop where
  ok : DkOk b
  len : b.dur.length = a.dur.length
  q : b.q.length ≤ a.q.length + k

theorem Kept.refl {d : Dk} (h : DkOk d) (k : Nat) : Kept d d k := ⟨h, rfl, by omega⟩

theorem Kept.half {a b : Dk} {k : Nat} (h : Kept a b k) : b.half = a.half := by unfold Dk.half; rw [h.len]

theorem Kept.trans {a b c : Dk} {k j : Nat} (h : Kept a b k) (i : Kept b c j) : Kept a c (k + j) := ⟨i.ok, by rw [i.len, h.len], by have := i.q; have := h.q; omega⟩

theorem wrF_kept : ∀ (k : Nat) (d : Dk) (o : Int) (x : List (List Cell)), DkOk d → 0 ≤ o → o + x.length ≤ d.cur.length → okB x = true → d.q.length + x.length ≤ 4000000 → Kept d (wrF k d o x).d x.length
  | 0, d, o, x, h, _, _, _, _ => Kept.refl h _
  | k + 1, d, o, x, h, h0, ho, hx, hq => by
    rw [wrF]
    by_cases hx0 : x.length = 0
    · rw [if_pos hx0]; exact Kept.refl h _
    rw [if_neg hx0]
    split
    · exact ⟨⟨h.cd, h.pos, h.le, h.sec, h.q, h.ql, h.left, h.bd, h.bc⟩, rfl, by show d.q.length ≤ _; omega⟩
    · rename_i hna
      obtain ⟨p1, p2, p3, p4⟩ := pcN_of (o := o) (n := x.length) h0 (by omega)
      generalize pcN o x.length = p at p1 p2 p3 p4
      have hol : (overL d.cur o.toNat (x.take p)).length = d.cur.length := overL_len (by rw [List.length_take]; omega)
      have hcd := h.cd
      have hl := h.left
      have h1 : DkOk ⟨d.dur, overL d.cur o.toNat (x.take p), d.q ++ [pcR o (x.take p)], d.arm, (if d.arm = true then d.left - 1 else d.left), d.down⟩ := by
        refine ⟨?_, h.pos, h.le, h.sec, ?_, ?_, ?_, h.bd, okB_over h.bc (okB_take hx _) _⟩
        · show (overL d.cur o.toNat (x.take p)).length = d.dur.length
          omega
        · intro r hr
          rcases List.mem_append.mp hr with hr | hr
          · exact h.q r hr
          · rw [List.mem_singleton.mp hr]
            refine okPc_mk h0 ?_ (okB_take hx _)
            show o + ((x.take p).length : Int) ≤ (d.dur.length : Int)
            rw [List.length_take]; omega
        · show (d.q ++ [pcR o (x.take p)]).length ≤ 4000000
          simp; omega
        · show 0 ≤ (if d.arm = true then d.left - 1 else d.left) ∧ (if d.arm = true then d.left - 1 else d.left) ≤ 9223372036854775807
          split <;> rename_i ha
          · have : d.left ≠ 0 := fun hc => hna ⟨ha, hc⟩
            omega
          · exact hl
      have ih := wrF_kept k _ (o + p) (x.drop p) h1 (by omega) (by show _ ≤ ((overL d.cur o.toNat (x.take p)).length : Int); rw [hol, List.length_drop]; omega) (okB_drop hx _) (by simp; omega)
      refine ⟨ih.ok, ih.len, ?_⟩
      have := ih.q
      simp at this
      omega

theorem write_kept {d : Dk} {o : Int} {x : List (List Cell)} (h : DkOk d) (hx : okB x = true) (hq : d.q.length + x.length ≤ 4000000) : Kept d (d.write o x).d x.length := by
  unfold Dk.write
  split
  · exact Kept.refl h _
  · rename_i hc
    have hc := chk_of (Classical.not_not.mp hc)
    exact wrF_kept _ d o x h hc.2.1 hc.2.2.2 hx hq

theorem sync_kept {d : Dk} (h : DkOk d) : Kept d d.sync.d 0 := by
  unfold Dk.sync
  split
  · exact Kept.refl h _
  · have hl := putQ_len (n := d.dur.length) h.q rfl
    refine ⟨⟨?_, ?_, ?_, ?_, ?_, ?_, h.left, putQ_okB h.q h.bd, h.bc⟩, hl, ?_⟩
    · show d.cur.length = (putQ d.dur d.q).length
      rw [hl]; exact h.cd
    · show 32 ≤ (putQ d.dur d.q).length
      rw [hl]; exact h.pos
    · show (putQ d.dur d.q).length ≤ 65536
      rw [hl]; exact h.le
    · show (putQ d.dur d.q).length % 32 = 0
      rw [hl]; exact h.sec
    · intro r hr; cases hr
    · show 0 ≤ 4000000; omega
    · show 0 ≤ _; omega

theorem store_kept {d : Dk} {o : Int} {x : List (List Cell)} (h : DkOk d) (hx : okB x = true) (hq : d.q.length + x.length ≤ 4000000) : Kept d (d.store o x).d x.length := by
  have h1 := write_kept (o := o) h hx hq
  unfold Dk.store
  split
  · exact h1.trans (sync_kept h1.ok)
  · exact h1

theorem crash_kept {d : Dk} (h : DkOk d) (k t : Int) : Kept d (d.crash k t) 0 := by
  have hl := crashB_len h k t
  have hb := crashB_okB h k t
  refine ⟨⟨rfl, ?_, ?_, ?_, ?_, ?_, ⟨by show (0 : Int) ≤ 0; omega, by show (0 : Int) ≤ _; omega⟩, hb, hb⟩, hl, ?_⟩
  · show 32 ≤ (crashB d k t).length
    rw [hl]; exact h.pos
  · show (crashB d k t).length ≤ 65536
    rw [hl]; exact h.le
  · show (crashB d k t).length % 32 = 0
    rw [hl]; exact h.sec
  · intro r hr; cases hr
  · show 0 ≤ 4000000; omega
  · show 0 ≤ _; omega

theorem new_ok (n : Int) : DkOk (newDk n) := by
  obtain ⟨h1, h2, h3, h4⟩ := secN_of n
  have e : (newDk n).dur.length = secN n := List.length_replicate ..
  refine ⟨rfl, by rw [e]; exact h2, by rw [e]; exact h3, by rw [e]; exact h4, ?_, ?_, ⟨by show (0 : Int) ≤ 0; omega, by show (0 : Int) ≤ _; omega⟩, okB_rep _, okB_rep _⟩
  · intro r hr; cases hr
  · show 0 ≤ 4000000; omega

theorem half_of {d : Dk} (h : DkOk d) : 0 ≤ d.half ∧ d.half + d.half ≤ d.dur.length ∧ d.half ≤ 32768 ∧ (128 ≤ d.dur.length → 64 ≤ d.half) := by
  have h1 := h.le
  have h2 := h.sec
  unfold Dk.half
  refine ⟨by omega, by omega, by omega, fun _ => by omega⟩

theorem seg_of {s : Int} (h : okSeg s = true) : s = 0 ∨ s = 1 := by
  unfold okSeg at h
  simp only [Bool.and_eq_true] at h
  have h1 := pd_of h.1
  have h2 := pd_of h.2
  omega

theorem seg_mk {s : Int} (h : s = 0 ∨ s = 1) : okSeg s = true := and_mk (pd_t (by omega)) (pd_t (by omega))

end Go.Proofs.Ytpafnokcmhlbgaa

namespace Go.Proofs.Ytpafnokcmhlbgaa

open Go.Abs

set_option maxRecDepth 20000

theorem e22 (m un cn : Nat) (qu : List (List Cell)) (am : Bool) (lf : Int) (dn : Bool) (du cu : List (List Cell)) : runF E (callOf L50) (m + 1) 22 [.one (.ptr 0 0)] [.var [.msl 5 1 un, .msl 5 2 cn, .sl true 85 qu, .bool am, .int .i64 lf, .bool dn], .arr 5 du, .arr 5 cu] =
  let z2 := Dk.rd (Dk.mk du cu qu am lf dn) (0 * Dk.half (Dk.mk du cu qu am lf dn) + 32) (Dk.half (Dk.mk du cu qu am lf dn) - 32)
  let z4 := Dk.rd (Dk.mk du cu qu am lf dn) (1 * Dk.half (Dk.mk du cu qu am lf dn) + 32) (Dk.half (Dk.mk du cu qu am lf dn) - 32)
  let z10 := Dk.rd (Dk.mk du cu qu am lf dn) (1 * Dk.half (Dk.mk du cu qu am lf dn)) 32
  let z1 := wScan (wGen z10) z4
  let z11 := Dk.rd (Dk.mk du cu qu am lf dn) (0 * Dk.half (Dk.mk du cu qu am lf dn)) 32
  let z5 := wScan (wGen z11) z2
  let z12 := Dk.store (Dk.mk du cu qu am lf dn) (0 * Dk.half (Dk.mk du cu qu am lf dn)) (wHdr 1)
  let z3 := Dr.d z12
  let z8 := Dk.store z3 (IntKind.wrap .i64 ((0 * Dk.half z3 + 32) + (wScan 1 z2).2)) (List.replicate (Int.toNat (IntKind.wrap .i64 ((z2.length : Int) - (wScan 1 z2).2))) [Cell.int .u8 0])
  let z13 := IntKind.wrap .i64 ((z4.length : Int) - z1.2)
  let z6 := Dk.store (Dk.mk du cu qu am lf dn) (IntKind.wrap .i64 ((1 * Dk.half (Dk.mk du cu qu am lf dn) + 32) + z1.2)) (List.replicate (Int.toNat z13) [Cell.int .u8 0])
  let z9 := Dk.store z3 (IntKind.wrap .i64 ((1 * Dk.half z3 + 32) + z1.2)) (List.replicate (Int.toNat z13) [Cell.int .u8 0])
  let z14 := sb1 (.var [.msl 5 1 un, .msl 5 2 cn, .sl true 85 qu, .bool am, .int .i64 lf, .bool dn])
  let z15 := IntKind.wrap .i64 ((z2.length : Int) - z5.2)
  let z7 := Dk.store (Dk.mk du cu qu am lf dn) (IntKind.wrap .i64 ((0 * Dk.half (Dk.mk du cu qu am lf dn) + 32) + z5.2)) (List.replicate (Int.toNat z15) [Cell.int .u8 0])
  let z16 := okDk un cn (Dk.mk du cu qu am lf dn)
  (cond z16
  (cond (decide ((secs du) < 4))
  (some ([.one (.nilp), .one (.int .i64 9)], [.var [.msl 5 1 un, .msl 5 2 cn, .sl true 85 qu, .bool am, .int .i64 lf, .bool dn], .arr 5 du, .arr 5 cu]))
  (cond dn
  (some ([.one (.nilp), .one (.int .i64 15)], [.var [.msl 5 1 un, .msl 5 2 cn, .sl true 85 qu, .bool am, .int .i64 lf, .bool dn], .arr 5 du, .arr 5 cu]))
  (cond (okDk un cn (Dk.mk du cu qu am lf dn) && okSeg 0)
  (cond z16
  (cond ((Dk.chk (Dk.mk du cu qu am lf dn) (0 * Dk.half (Dk.mk du cu qu am lf dn)) 32) != 0)
  (some ([.one (.nilp), .one (.int .i64 (Dk.chk (Dk.mk du cu qu am lf dn) (0 * Dk.half (Dk.mk du cu qu am lf dn)) 32))], [.var [.msl 5 1 un, .msl 5 2 cn, .sl true 85 qu, .bool am, .int .i64 lf, .bool dn], .arr 5 du, .arr 5 cu]))
  (cond (okB z11 && pd (z11.length = 32))
  (cond (okDk un cn (Dk.mk du cu qu am lf dn) && okSeg 0)
  (cond z16
  (cond z16
  (cond ((Dk.chk (Dk.mk du cu qu am lf dn) (0 * Dk.half (Dk.mk du cu qu am lf dn) + 32) (Dk.half (Dk.mk du cu qu am lf dn) - 32)) != 0)
  (some ([.one (.nilp), .one (.int .i64 (Dk.chk (Dk.mk du cu qu am lf dn) (0 * Dk.half (Dk.mk du cu qu am lf dn) + 32) (Dk.half (Dk.mk du cu qu am lf dn) - 32)))], [.var [.msl 5 1 un, .msl 5 2 cn, .sl true 85 qu, .bool am, .int .i64 lf, .bool dn], .arr 5 du, .arr 5 cu]))
  (cond (okDk un cn (Dk.mk du cu qu am lf dn) && okSeg 1)
  (cond z16
  (cond ((Dk.chk (Dk.mk du cu qu am lf dn) (1 * Dk.half (Dk.mk du cu qu am lf dn)) 32) != 0)
  (some ([.one (.nilp), .one (.int .i64 (Dk.chk (Dk.mk du cu qu am lf dn) (1 * Dk.half (Dk.mk du cu qu am lf dn)) 32))], [.var [.msl 5 1 un, .msl 5 2 cn, .sl true 85 qu, .bool am, .int .i64 lf, .bool dn], .arr 5 du, .arr 5 cu]))
  (cond (okB z10 && pd (z10.length = 32))
  (cond (okDk un cn (Dk.mk du cu qu am lf dn) && okSeg 1)
  (cond z16
  (cond z16
  (cond ((Dk.chk (Dk.mk du cu qu am lf dn) (1 * Dk.half (Dk.mk du cu qu am lf dn) + 32) (Dk.half (Dk.mk du cu qu am lf dn) - 32)) != 0)
  (some ([.one (.nilp), .one (.int .i64 (Dk.chk (Dk.mk du cu qu am lf dn) (1 * Dk.half (Dk.mk du cu qu am lf dn) + 32) (Dk.half (Dk.mk du cu qu am lf dn) - 32)))], [.var [.msl 5 1 un, .msl 5 2 cn, .sl true 85 qu, .bool am, .int .i64 lf, .bool dn], .arr 5 du, .arr 5 cu]))
  (cond ((wGen z11) == 0)
  (cond ((wGen z10) == 0)
  (cond (okBl z2)
  (cond (!(zeroB z2))
  (some ([.one (.nilp), .one (.int .i64 2)], [.var [.msl 5 1 un, .msl 5 2 cn, .sl true 85 qu, .bool am, .int .i64 lf, .bool dn], .arr 5 du, .arr 5 cu]))
  (cond (okBl z4)
  (cond (!(zeroB z4))
  (some ([.one (.nilp), .one (.int .i64 2)], [.var [.msl 5 1 un, .msl 5 2 cn, .sl true 85 qu, .bool am, .int .i64 lf, .bool dn], .arr 5 du, .arr 5 cu]))
  (cond (okDk un cn (Dk.mk du cu qu am lf dn) && okSeg 0)
  (cond (okV 1)
  (cond (okDk un cn (Dk.mk du cu qu am lf dn) && okWx (Dk.mk du cu qu am lf dn) (wHdr 1))
  (cond ((Dr.e z12) != 0)
  (some ([.one (.nilp), .one (.int .i64 (Dr.e z12))], [.var [.msl 5 1 un, .msl 5 2 cn, .sl true 85 (Dk.q z3), .bool (Dk.arm z3), .int .i64 (Dk.left z3), .bool (Dk.down z3)], .arr 5 (Dk.dur z3), .arr 5 (Dk.cur z3)]))
  (cond (decide ((wGen z10) > 1))
  (cond (okV (wGen z10) && okBl z4)
  (cond (inB z1.2 (z4.length + 1))
  (cond (okBl (dropN z4 (Int.toNat z1.2)))
  (cond (!(zeroB (dropN z4 (Int.toNat z1.2))))
  (cond (okDk un cn z3 && okSeg 1)
  (cond (true && ((sb1 (.var [.ptr 0 0, .int .i64 1, .int .u64 (wGen z10), .sl true 22 z1.1, .int .i64 z1.2, .bool ((Dr.e z12) != 0)])) && ((sb1 (.var [.msl 5 1 un, .msl 5 2 cn, .sl true 85 (Dk.q z3), .bool (Dk.arm z3), .int .i64 (Dk.left z3), .bool (Dk.down z3)])) && ((sb1 (.arr 5 (Dk.dur z3))) && ((sb1 (.arr 5 (Dk.cur z3))) && true)))))
  (cond (okMake z13 z13)
  (cond (okDk un cn z3 && okWx z3 (List.replicate (Int.toNat z13) [Cell.int .u8 0]))
  (cond ((Dr.e z9) != 0)
  (some ([.one (.nilp), .one (.int .i64 (Dr.e z9))], [.var [.msl 5 1 un, .msl 5 2 cn, .sl true 85 (Dk.q (Dr.d z9)), .bool (Dk.arm (Dr.d z9)), .int .i64 (Dk.left (Dr.d z9)), .bool (Dk.down (Dr.d z9))], .arr 5 (Dk.dur (Dr.d z9)), .arr 5 (Dk.cur (Dr.d z9))]))
  (some ([.one (.ptr 3 0), .one (.int .i64 0)], [.var [.msl 5 1 un, .msl 5 2 cn, .sl true 85 (Dk.q (Dr.d z9)), .bool (Dk.arm (Dr.d z9)), .int .i64 (Dk.left (Dr.d z9)), .bool (Dk.down (Dr.d z9))], .arr 5 (Dk.dur (Dr.d z9)), .arr 5 (Dk.cur (Dr.d z9)), .var [.ptr 0 0, .int .i64 1, .int .u64 (wGen z10), .sl true 22 z1.1, .int .i64 z1.2, .bool ((Dr.e z9) != 0)]])))
  none)
  none)
  none)
  none)
  (some ([.one (.ptr 3 0), .one (.int .i64 0)], [.var [.msl 5 1 un, .msl 5 2 cn, .sl true 85 (Dk.q z3), .bool (Dk.arm z3), .int .i64 (Dk.left z3), .bool (Dk.down z3)], .arr 5 (Dk.dur z3), .arr 5 (Dk.cur z3), .var [.ptr 0 0, .int .i64 1, .int .u64 (wGen z10), .sl true 22 z1.1, .int .i64 z1.2, .bool ((Dr.e z12) != 0)]])))
  none)
  none)
  none)
  (cond (okV 1 && okBl z2)
  (cond (inB (wScan 1 z2).2 (z2.length + 1))
  (cond (okBl (dropN z2 (Int.toNat (wScan 1 z2).2)))
  (cond (!(zeroB (dropN z2 (Int.toNat (wScan 1 z2).2))))
  (cond (okDk un cn z3 && okSeg 0)
  (cond (true && ((sb1 (.var [.ptr 0 0, .int .i64 0, .int .u64 1, .sl true 22 (wScan 1 z2).1, .int .i64 (wScan 1 z2).2, .bool ((Dr.e z12) != 0)])) && ((sb1 (.var [.msl 5 1 un, .msl 5 2 cn, .sl true 85 (Dk.q z3), .bool (Dk.arm z3), .int .i64 (Dk.left z3), .bool (Dk.down z3)])) && ((sb1 (.arr 5 (Dk.dur z3))) && ((sb1 (.arr 5 (Dk.cur z3))) && true)))))
  (cond (okMake (IntKind.wrap .i64 ((z2.length : Int) - (wScan 1 z2).2)) (IntKind.wrap .i64 ((z2.length : Int) - (wScan 1 z2).2)))
  (cond (okDk un cn z3 && okWx z3 (List.replicate (Int.toNat (IntKind.wrap .i64 ((z2.length : Int) - (wScan 1 z2).2))) [Cell.int .u8 0]))
  (cond ((Dr.e z8) != 0)
  (some ([.one (.nilp), .one (.int .i64 (Dr.e z8))], [.var [.msl 5 1 un, .msl 5 2 cn, .sl true 85 (Dk.q (Dr.d z8)), .bool (Dk.arm (Dr.d z8)), .int .i64 (Dk.left (Dr.d z8)), .bool (Dk.down (Dr.d z8))], .arr 5 (Dk.dur (Dr.d z8)), .arr 5 (Dk.cur (Dr.d z8))]))
  (some ([.one (.ptr 3 0), .one (.int .i64 0)], [.var [.msl 5 1 un, .msl 5 2 cn, .sl true 85 (Dk.q (Dr.d z8)), .bool (Dk.arm (Dr.d z8)), .int .i64 (Dk.left (Dr.d z8)), .bool (Dk.down (Dr.d z8))], .arr 5 (Dk.dur (Dr.d z8)), .arr 5 (Dk.cur (Dr.d z8)), .var [.ptr 0 0, .int .i64 0, .int .u64 1, .sl true 22 (wScan 1 z2).1, .int .i64 (wScan 1 z2).2, .bool ((Dr.e z8) != 0)]])))
  none)
  none)
  none)
  none)
  (some ([.one (.ptr 3 0), .one (.int .i64 0)], [.var [.msl 5 1 un, .msl 5 2 cn, .sl true 85 (Dk.q z3), .bool (Dk.arm z3), .int .i64 (Dk.left z3), .bool (Dk.down z3)], .arr 5 (Dk.dur z3), .arr 5 (Dk.cur z3), .var [.ptr 0 0, .int .i64 0, .int .u64 1, .sl true 22 (wScan 1 z2).1, .int .i64 (wScan 1 z2).2, .bool ((Dr.e z12) != 0)]])))
  none)
  none)
  none)))
  none)
  none)
  none))
  none))
  none)
  (cond (decide ((wGen z10) > (wGen z11)))
  (cond (okV (wGen z10) && okBl z4)
  (cond (inB z1.2 (z4.length + 1))
  (cond (okBl (dropN z4 (Int.toNat z1.2)))
  (cond (!(zeroB (dropN z4 (Int.toNat z1.2))))
  (cond (okDk un cn (Dk.mk du cu qu am lf dn) && okSeg 1)
  (cond (true && ((sb1 (.var [.ptr 0 0, .int .i64 1, .int .u64 (wGen z10), .sl true 22 z1.1, .int .i64 z1.2, .bool false])) && (z14 && ((sb1 (.arr 5 du)) && ((sb1 (.arr 5 cu)) && true)))))
  (cond (okMake z13 z13)
  (cond (okDk un cn (Dk.mk du cu qu am lf dn) && okWx (Dk.mk du cu qu am lf dn) (List.replicate (Int.toNat z13) [Cell.int .u8 0]))
  (cond ((Dr.e z6) != 0)
  (some ([.one (.nilp), .one (.int .i64 (Dr.e z6))], [.var [.msl 5 1 un, .msl 5 2 cn, .sl true 85 (Dk.q (Dr.d z6)), .bool (Dk.arm (Dr.d z6)), .int .i64 (Dk.left (Dr.d z6)), .bool (Dk.down (Dr.d z6))], .arr 5 (Dk.dur (Dr.d z6)), .arr 5 (Dk.cur (Dr.d z6))]))
  (some ([.one (.ptr 3 0), .one (.int .i64 0)], [.var [.msl 5 1 un, .msl 5 2 cn, .sl true 85 (Dk.q (Dr.d z6)), .bool (Dk.arm (Dr.d z6)), .int .i64 (Dk.left (Dr.d z6)), .bool (Dk.down (Dr.d z6))], .arr 5 (Dk.dur (Dr.d z6)), .arr 5 (Dk.cur (Dr.d z6)), .var [.ptr 0 0, .int .i64 1, .int .u64 (wGen z10), .sl true 22 z1.1, .int .i64 z1.2, .bool ((Dr.e z6) != 0)]])))
  none)
  none)
  none)
  none)
  (some ([.one (.ptr 3 0), .one (.int .i64 0)], [.var [.msl 5 1 un, .msl 5 2 cn, .sl true 85 qu, .bool am, .int .i64 lf, .bool dn], .arr 5 du, .arr 5 cu, .var [.ptr 0 0, .int .i64 1, .int .u64 (wGen z10), .sl true 22 z1.1, .int .i64 z1.2, .bool false]])))
  none)
  none)
  none)
  (cond (okV (wGen z11) && okBl z2)
  (cond (inB z5.2 (z2.length + 1))
  (cond (okBl (dropN z2 (Int.toNat z5.2)))
  (cond (!(zeroB (dropN z2 (Int.toNat z5.2))))
  (cond (okDk un cn (Dk.mk du cu qu am lf dn) && okSeg 0)
  (cond (true && ((sb1 (.var [.ptr 0 0, .int .i64 0, .int .u64 (wGen z11), .sl true 22 z5.1, .int .i64 z5.2, .bool false])) && (z14 && ((sb1 (.arr 5 du)) && ((sb1 (.arr 5 cu)) && true)))))
  (cond (okMake z15 z15)
  (cond (okDk un cn (Dk.mk du cu qu am lf dn) && okWx (Dk.mk du cu qu am lf dn) (List.replicate (Int.toNat z15) [Cell.int .u8 0]))
  (cond ((Dr.e z7) != 0)
  (some ([.one (.nilp), .one (.int .i64 (Dr.e z7))], [.var [.msl 5 1 un, .msl 5 2 cn, .sl true 85 (Dk.q (Dr.d z7)), .bool (Dk.arm (Dr.d z7)), .int .i64 (Dk.left (Dr.d z7)), .bool (Dk.down (Dr.d z7))], .arr 5 (Dk.dur (Dr.d z7)), .arr 5 (Dk.cur (Dr.d z7))]))
  (some ([.one (.ptr 3 0), .one (.int .i64 0)], [.var [.msl 5 1 un, .msl 5 2 cn, .sl true 85 (Dk.q (Dr.d z7)), .bool (Dk.arm (Dr.d z7)), .int .i64 (Dk.left (Dr.d z7)), .bool (Dk.down (Dr.d z7))], .arr 5 (Dk.dur (Dr.d z7)), .arr 5 (Dk.cur (Dr.d z7)), .var [.ptr 0 0, .int .i64 0, .int .u64 (wGen z11), .sl true 22 z5.1, .int .i64 z5.2, .bool ((Dr.e z7) != 0)]])))
  none)
  none)
  none)
  none)
  (some ([.one (.ptr 3 0), .one (.int .i64 0)], [.var [.msl 5 1 un, .msl 5 2 cn, .sl true 85 qu, .bool am, .int .i64 lf, .bool dn], .arr 5 du, .arr 5 cu, .var [.ptr 0 0, .int .i64 0, .int .u64 (wGen z11), .sl true 22 z5.1, .int .i64 z5.2, .bool false]])))
  none)
  none)
  none)))
  (cond (decide ((wGen z10) > (wGen z11)))
  (cond (okV (wGen z10) && okBl z4)
  (cond (inB z1.2 (z4.length + 1))
  (cond (okBl (dropN z4 (Int.toNat z1.2)))
  (cond (!(zeroB (dropN z4 (Int.toNat z1.2))))
  (cond (okDk un cn (Dk.mk du cu qu am lf dn) && okSeg 1)
  (cond (true && ((sb1 (.var [.ptr 0 0, .int .i64 1, .int .u64 (wGen z10), .sl true 22 z1.1, .int .i64 z1.2, .bool false])) && (z14 && ((sb1 (.arr 5 du)) && ((sb1 (.arr 5 cu)) && true)))))
  (cond (okMake z13 z13)
  (cond (okDk un cn (Dk.mk du cu qu am lf dn) && okWx (Dk.mk du cu qu am lf dn) (List.replicate (Int.toNat z13) [Cell.int .u8 0]))
  (cond ((Dr.e z6) != 0)
  (some ([.one (.nilp), .one (.int .i64 (Dr.e z6))], [.var [.msl 5 1 un, .msl 5 2 cn, .sl true 85 (Dk.q (Dr.d z6)), .bool (Dk.arm (Dr.d z6)), .int .i64 (Dk.left (Dr.d z6)), .bool (Dk.down (Dr.d z6))], .arr 5 (Dk.dur (Dr.d z6)), .arr 5 (Dk.cur (Dr.d z6))]))
  (some ([.one (.ptr 3 0), .one (.int .i64 0)], [.var [.msl 5 1 un, .msl 5 2 cn, .sl true 85 (Dk.q (Dr.d z6)), .bool (Dk.arm (Dr.d z6)), .int .i64 (Dk.left (Dr.d z6)), .bool (Dk.down (Dr.d z6))], .arr 5 (Dk.dur (Dr.d z6)), .arr 5 (Dk.cur (Dr.d z6)), .var [.ptr 0 0, .int .i64 1, .int .u64 (wGen z10), .sl true 22 z1.1, .int .i64 z1.2, .bool ((Dr.e z6) != 0)]])))
  none)
  none)
  none)
  none)
  (some ([.one (.ptr 3 0), .one (.int .i64 0)], [.var [.msl 5 1 un, .msl 5 2 cn, .sl true 85 qu, .bool am, .int .i64 lf, .bool dn], .arr 5 du, .arr 5 cu, .var [.ptr 0 0, .int .i64 1, .int .u64 (wGen z10), .sl true 22 z1.1, .int .i64 z1.2, .bool false]])))
  none)
  none)
  none)
  (cond (okV (wGen z11) && okBl z2)
  (cond (inB z5.2 (z2.length + 1))
  (cond (okBl (dropN z2 (Int.toNat z5.2)))
  (cond (!(zeroB (dropN z2 (Int.toNat z5.2))))
  (cond (okDk un cn (Dk.mk du cu qu am lf dn) && okSeg 0)
  (cond (true && ((sb1 (.var [.ptr 0 0, .int .i64 0, .int .u64 (wGen z11), .sl true 22 z5.1, .int .i64 z5.2, .bool false])) && (z14 && ((sb1 (.arr 5 du)) && ((sb1 (.arr 5 cu)) && true)))))
  (cond (okMake z15 z15)
  (cond (okDk un cn (Dk.mk du cu qu am lf dn) && okWx (Dk.mk du cu qu am lf dn) (List.replicate (Int.toNat z15) [Cell.int .u8 0]))
  (cond ((Dr.e z7) != 0)
  (some ([.one (.nilp), .one (.int .i64 (Dr.e z7))], [.var [.msl 5 1 un, .msl 5 2 cn, .sl true 85 (Dk.q (Dr.d z7)), .bool (Dk.arm (Dr.d z7)), .int .i64 (Dk.left (Dr.d z7)), .bool (Dk.down (Dr.d z7))], .arr 5 (Dk.dur (Dr.d z7)), .arr 5 (Dk.cur (Dr.d z7))]))
  (some ([.one (.ptr 3 0), .one (.int .i64 0)], [.var [.msl 5 1 un, .msl 5 2 cn, .sl true 85 (Dk.q (Dr.d z7)), .bool (Dk.arm (Dr.d z7)), .int .i64 (Dk.left (Dr.d z7)), .bool (Dk.down (Dr.d z7))], .arr 5 (Dk.dur (Dr.d z7)), .arr 5 (Dk.cur (Dr.d z7)), .var [.ptr 0 0, .int .i64 0, .int .u64 (wGen z11), .sl true 22 z5.1, .int .i64 z5.2, .bool ((Dr.e z7) != 0)]])))
  none)
  none)
  none)
  none)
  (some ([.one (.ptr 3 0), .one (.int .i64 0)], [.var [.msl 5 1 un, .msl 5 2 cn, .sl true 85 qu, .bool am, .int .i64 lf, .bool dn], .arr 5 du, .arr 5 cu, .var [.ptr 0 0, .int .i64 0, .int .u64 (wGen z11), .sl true 22 z5.1, .int .i64 z5.2, .bool false]])))
  none)
  none)
  none))))
  none)
  none)
  none)
  none))
  none)
  none))
  none)
  none)
  none)
  none))
  none)
  none)))
  none) := by kernel_rfl

noncomputable def P34_0 : List AItem := F34.at [.snd, .snd, .snd, .fst, .snd, .sub, .head]

def M34_0 (t1 : List (List Cell)) (t6 : Int) (t22 : List (List Cell)) (t23 : Int) (t24 : Int) (b0 : Int) (b0_1 : Int) (b0_2 : List (List Cell)) (b0_3 : Int) (b0_4 : Bool) (b1 : Nat) (b1_1 : Nat) (b1_2 : List (List Cell)) (b1_3 : Bool) (b1_4 : Int) (b1_5 : Bool) (b2 : List (List Cell)) (b3 : List (List Cell)) : St := ⟨[(0, .one (.ptr 0 0)), (1, .one (.sl false 22 t1)), (6, .one (.int .i64 t6)), (22, .one (.sl false 22 t22)), (23, .one (.int .i64 t23)), (24, .one (.int .i64 t24))], [.var [.ptr 1 0, .int .i64 b0, .int .u64 b0_1, .sl true 22 b0_2, .int .i64 b0_3, .bool b0_4], .var [.msl 5 2 b1, .msl 5 3 b1_1, .sl true 85 b1_2, .bool b1_3, .int .i64 b1_4, .bool b1_5], .arr 5 b2, .arr 5 b3]⟩

noncomputable def P34_1 : List AItem := F34.at [.snd, .snd, .snd, .snd, .snd, .snd, .snd, .fst, .snd, .sub, .head]

def M34_1 (t1 : List (List Cell)) (t6 : Int) (t10 : Int) (t11 : Int) (t12 : Nat) (t60 : List (List Cell)) (t61 : Int) (t62 : Int) (b0 : Int) (b0_1 : Int) (b0_2 : List (List Cell)) (b0_3 : Int) (b0_4 : Bool) (b1 : Nat) (b1_1 : Nat) (b1_2 : List (List Cell)) (b1_3 : Bool) (b1_4 : Int) (b1_5 : Bool) (b2 : List (List Cell)) (b3 : List (List Cell)) (b4 : List (List Cell)) : St := ⟨[(0, .one (.ptr 0 0)), (1, .one (.sl false 22 t1)), (6, .one (.int .i64 t6)), (10, .one (.int .i64 t10)), (11, .one (.int .u64 t11)), (12, .one (.msl 5 4 t12)), (60, .one (.sl false 22 t60)), (61, .one (.int .i64 t61)), (62, .one (.int .i64 t62))], [.var [.ptr 1 0, .int .i64 b0, .int .u64 b0_1, .sl true 22 b0_2, .int .i64 b0_3, .bool b0_4], .var [.msl 5 2 b1, .msl 5 3 b1_1, .sl true 85 b1_2, .bool b1_3, .int .i64 b1_4, .bool b1_5], .arr 5 b2, .arr 5 b3, .arr 5 b4]⟩

theorem e34 (m : Nat) (r : List (List Cell)) (ac ge : Int) (rc : List (List Cell)) (fi : Int) (fa : Bool) (un cn : Nat) (qu : List (List Cell)) (am : Bool) (lf : Int) (dn : Bool) (du cu : List (List Cell)) : runF E (callOf L33) (m + 1) 34 [.one (.ptr 0 0), .one (.sl false 22 r)] [.var [.ptr 1 0, .int .i64 ac, .int .u64 ge, .sl true 22 rc, .int .i64 fi, .bool fa], .var [.msl 5 2 un, .msl 5 3 cn, .sl true 85 qu, .bool am, .int .i64 lf, .bool dn], .arr 5 du, .arr 5 cu] =
  (cond ((useE fa) != 0)
  (some ([.one (.int .i64 (useE fa))], [.var [.ptr 1 0, .int .i64 ac, .int .u64 ge, .sl true 22 rc, .int .i64 fi, .bool fa], .var [.msl 5 2 un, .msl 5 3 cn, .sl true 85 qu, .bool am, .int .i64 lf, .bool dn], .arr 5 du, .arr 5 cu]))
  (goF E (callOf L33) F34 4 m P34_0 (M34_0 r 0 r (r.length : Int) 0 ac ge rc fi fa un cn qu am lf dn du cu))) := by kernel_rfl

theorem e34_0 (m : Nat) (t1 : List (List Cell)) (t6 : Int) (t22 : List (List Cell)) (t23 t24 b0 b0_1 : Int) (b0_2 : List (List Cell)) (b0_3 : Int) (b0_4 : Bool) (b1 b1_1 : Nat) (b1_2 : List (List Cell)) (b1_3 : Bool) (b1_4 : Int) (b1_5 : Bool) (b2 b3 : List (List Cell)) : goF E (callOf L33) F34 4 (m + 1) P34_0 (M34_0 t1 t6 t22 t23 t24 b0 b0_1 b0_2 b0_3 b0_4 b1 b1_1 b1_2 b1_3 b1_4 b1_5 b2 b3) =
  (cond (decide (t24 < t23))
  (cond (inB t24 t22.length)
  (cond ((recE (nl (Abs.rowAt t22 (Int.toNat t24)) 0)) != 0)
  (some ([.one (.int .i64 (recE (nl (Abs.rowAt t22 (Int.toNat t24)) 0)))], [.var [.ptr 1 0, .int .i64 b0, .int .u64 b0_1, .sl true 22 b0_2, .int .i64 b0_3, .bool b0_4], .var [.msl 5 2 b1, .msl 5 3 b1_1, .sl true 85 b1_2, .bool b1_3, .int .i64 b1_4, .bool b1_5], .arr 5 b2, .arr 5 b3]))
  (goF E (callOf L33) F34 4 m P34_0 (M34_0 t1 (IntKind.wrap .i64 (t6 + (IntKind.wrap .i64 (((nl (Abs.rowAt t22 (Int.toNat t24)) 0).length : Int) + 10)))) t22 t23 (IntKind.wrap .i64 (t24 + 1)) b0 b0_1 b0_2 b0_3 b0_4 b1 b1_1 b1_2 b1_3 b1_4 b1_5 b2 b3)))
  none)
  (cond (okDk b1 b1_1 (Dk.mk b2 b3 b1_2 b1_3 b1_4 b1_5))
  (cond (decide (t6 > (Dk.half (Dk.mk b2 b3 b1_2 b1_3 b1_4 b1_5) - 32)))
  (some ([.one (.int .i64 16)], [.var [.ptr 1 0, .int .i64 b0, .int .u64 b0_1, .sl true 22 b0_2, .int .i64 b0_3, .bool b0_4], .var [.msl 5 2 b1, .msl 5 3 b1_1, .sl true 85 b1_2, .bool b1_3, .int .i64 b1_4, .bool b1_5], .arr 5 b2, .arr 5 b3]))
  (cond (b0_1 == 18446744073709551615)
  (some ([.one (.int .i64 16)], [.var [.ptr 1 0, .int .i64 b0, .int .u64 b0_1, .sl true 22 b0_2, .int .i64 b0_3, .bool b0_4], .var [.msl 5 2 b1, .msl 5 3 b1_1, .sl true 85 b1_2, .bool b1_3, .int .i64 b1_4, .bool b1_5], .arr 5 b2, .arr 5 b3]))
  (goF E (callOf L33) F34 4 m P34_1 (M34_1 t1 t6 (IntKind.wrap .i64 (1 - b0)) (IntKind.wrap .u64 (b0_1 + 1)) 0 t1 (t1.length : Int) 0 b0 b0_1 b0_2 b0_3 b0_4 b1 b1_1 b1_2 b1_3 b1_4 b1_5 b2 b3 ([] : List (List Cell))))))
  none)) := by kernel_rfl

theorem e34_1 (m : Nat) (t1 : List (List Cell)) (t6 t10 t11 : Int) (t12 : Nat) (t60 : List (List Cell)) (t61 t62 b0 b0_1 : Int) (b0_2 : List (List Cell)) (b0_3 : Int) (b0_4 : Bool) (b1 b1_1 : Nat) (b1_2 : List (List Cell)) (b1_3 : Bool) (b1_4 : Int) (b1_5 : Bool) (b2 b3 b4 : List (List Cell)) : goF E (callOf L33) F34 4 (m + 1) P34_1 (M34_1 t1 t6 t10 t11 t12 t60 t61 t62 b0 b0_1 b0_2 b0_3 b0_4 b1 b1_1 b1_2 b1_3 b1_4 b1_5 b2 b3 b4) =
  let z1 := Dk.mk b2 b3 b1_2 b1_3 b1_4 b1_5
  let z2 := Int.toNat (IntKind.wrap .i64 ((Dk.half z1 - 32) - t6))
  let z5 := Dk.store z1 (t10 * Dk.half z1 + 32) (b4 ++ List.replicate z2 [Cell.int .u8 0])
  let z3 := Dr.d z5
  let z4 := Dk.store z3 (t10 * Dk.half z3) (wHdr t11)
  (cond (decide (t62 < t61))
  (cond (inB t62 t60.length)
  (cond (okV t11 && (okRx (t12 : Int) (nl (Abs.rowAt t60 (Int.toNat t62)) 0) && (okMx t12 b4 && pd (b4.length ≤ 900000))))
  (goF E (callOf L33) F34 4 m P34_1 (M34_1 t1 t6 t10 t11 (b4 ++ wEnc t11 (t12 : Int) (nl (Abs.rowAt t60 (Int.toNat t62)) 0)).length t60 t61 (IntKind.wrap .i64 (t62 + 1)) b0 b0_1 b0_2 b0_3 b0_4 b1 b1_1 b1_2 b1_3 b1_4 b1_5 b2 b3 (b4 ++ wEnc t11 (t12 : Int) (nl (Abs.rowAt t60 (Int.toNat t62)) 0))))
  none)
  none)
  (cond (okDk b1 b1_1 z1)
  (cond (Nat.beq t12 b4.length)
  (cond (okMake (IntKind.wrap .i64 ((Dk.half z1 - 32) - t6)) (IntKind.wrap .i64 ((Dk.half z1 - 32) - t6)))
  (cond (fits (b4.length + z2))
  (cond (okDk b1 b1_1 z1 && okSeg t10)
  (cond (Nat.beq (b4.length + z2) (b4 ++ List.replicate z2 [Cell.int .u8 0]).length)
  (cond (okDk b1 b1_1 z1 && okWx z1 (b4 ++ List.replicate z2 [Cell.int .u8 0]))
  (cond ((Dr.e z5) != 0)
  (some ([.one (.int .i64 (Dr.e z5))], [.var [.ptr 1 0, .int .i64 b0, .int .u64 b0_1, .sl true 22 b0_2, .int .i64 b0_3, .bool ((Dr.e z5) != 0)], .var [.msl 5 2 b1, .msl 5 3 b1_1, .sl true 85 (Dk.q z3), .bool (Dk.arm z3), .int .i64 (Dk.left z3), .bool (Dk.down z3)], .arr 5 (Dk.dur z3), .arr 5 (Dk.cur z3)]))
  (cond (okDk b1 b1_1 z3 && okSeg t10)
  (cond (okV t11)
  (cond (okDk b1 b1_1 z3 && okWx z3 (wHdr t11))
  (cond ((Dr.e z4) != 0)
  (some ([.one (.int .i64 (Dr.e z4))], [.var [.ptr 1 0, .int .i64 b0, .int .u64 b0_1, .sl true 22 b0_2, .int .i64 b0_3, .bool ((Dr.e z4) != 0)], .var [.msl 5 2 b1, .msl 5 3 b1_1, .sl true 85 (Dk.q (Dr.d z4)), .bool (Dk.arm (Dr.d z4)), .int .i64 (Dk.left (Dr.d z4)), .bool (Dk.down (Dr.d z4))], .arr 5 (Dk.dur (Dr.d z4)), .arr 5 (Dk.cur (Dr.d z4))]))
  (cond (okRs t1)
  (some ([.one (.int .i64 0)], [.var [.ptr 1 0, .int .i64 t10, .int .u64 t11, .sl true 22 (cloneR t1), .int .i64 t6, .bool ((Dr.e z4) != 0)], .var [.msl 5 2 b1, .msl 5 3 b1_1, .sl true 85 (Dk.q (Dr.d z4)), .bool (Dk.arm (Dr.d z4)), .int .i64 (Dk.left (Dr.d z4)), .bool (Dk.down (Dr.d z4))], .arr 5 (Dk.dur (Dr.d z4)), .arr 5 (Dk.cur (Dr.d z4))]))
  none))
  none)
  none)
  none))
  none)
  none)
  none)
  none)
  none)
  none)
  none)) := by kernel_rfl

theorem e34_c1 (m : Nat)  : runF E (callOf L33) (m + 1) 34 [.one (.nilp), .one (.nils)] [] =
  (some ([.one (.int .i64 17)], [])) := by kernel_rfl

noncomputable def P34_0_c2 : List AItem := F34.at [.snd, .snd, .snd, .fst, .snd, .sub, .head]

def M34_0_c2 (t1 : List (List Cell)) (t6 : Int) (t22 : List (List Cell)) (t23 : Int) (t24 : Int) (b0 : Int) (b0_1 : Int) (b0_2 : List (List Cell)) (b0_3 : Int) (b0_4 : Bool) (b1 : Nat) (b1_1 : Nat) (b1_2 : List (List Cell)) (b1_3 : Bool) (b1_4 : Int) (b1_5 : Bool) (b2 : List (List Cell)) (b3 : List (List Cell)) : St := ⟨[(0, .one (.ptr 0 0)), (1, .one (.sl false 22 t1)), (6, .one (.int .i64 t6)), (22, .one (.sl false 22 t22)), (23, .one (.int .i64 t23)), (24, .one (.int .i64 t24))], [.var [.ptr 1 0, .int .i64 b0, .int .u64 b0_1, .sl true 22 b0_2, .int .i64 b0_3, .bool b0_4], .var [.msl 5 2 b1, .msl 5 3 b1_1, .sl true 85 b1_2, .bool b1_3, .int .i64 b1_4, .bool b1_5], .arr 5 b2, .arr 5 b3]⟩

theorem e34_c2 (m : Nat) (ac ge : Int) (rc : List (List Cell)) (fi : Int) (fa : Bool) (un cn : Nat) (qu : List (List Cell)) (am : Bool) (lf : Int) (dn : Bool) (du cu : List (List Cell)) : runF E (callOf L33) (m + 1) 34 [.one (.ptr 0 0), .one (.nils)] [.var [.ptr 1 0, .int .i64 ac, .int .u64 ge, .sl true 22 rc, .int .i64 fi, .bool fa], .var [.msl 5 2 un, .msl 5 3 cn, .sl true 85 qu, .bool am, .int .i64 lf, .bool dn], .arr 5 du, .arr 5 cu] =
  (cond ((useE fa) != 0)
  (some ([.one (.int .i64 (useE fa))], [.var [.ptr 1 0, .int .i64 ac, .int .u64 ge, .sl true 22 rc, .int .i64 fi, .bool fa], .var [.msl 5 2 un, .msl 5 3 cn, .sl true 85 qu, .bool am, .int .i64 lf, .bool dn], .arr 5 du, .arr 5 cu]))
  (goF E (callOf L33) F34 4 m P34_0_c2 (M34_0_c2 ([] : List (List Cell)) 0 ([] : List (List Cell)) 0 0 ac ge rc fi fa un cn qu am lf dn du cu))) := by kernel_rfl

theorem e33 (m : Nat) (x : List (List Cell)) (ac ge : Int) (rc : List (List Cell)) (fi : Int) (fa : Bool) (un cn : Nat) (qu : List (List Cell)) (am : Bool) (lf : Int) (dn : Bool) (du cu : List (List Cell)) : runF E (callOf L62) (m + 1) 33 [.one (.ptr 0 0), .one (.sl false 5 x)] [.var [.ptr 1 0, .int .i64 ac, .int .u64 ge, .sl true 22 rc, .int .i64 fi, .bool fa], .var [.msl 5 2 un, .msl 5 3 cn, .sl true 85 qu, .bool am, .int .i64 lf, .bool dn], .arr 5 du, .arr 5 cu] =
  let z1 := Dk.store (Dk.mk du cu qu am lf dn) (IntKind.wrap .i64 ((ac * Dk.half (Dk.mk du cu qu am lf dn) + 32) + fi)) (wEnc ge fi x)
  (cond ((useE fa) != 0)
  (some ([.one (.int .i64 (useE fa))], [.var [.ptr 1 0, .int .i64 ac, .int .u64 ge, .sl true 22 rc, .int .i64 fi, .bool fa], .var [.msl 5 2 un, .msl 5 3 cn, .sl true 85 qu, .bool am, .int .i64 lf, .bool dn], .arr 5 du, .arr 5 cu]))
  (cond ((recE x) != 0)
  (some ([.one (.int .i64 (recE x))], [.var [.ptr 1 0, .int .i64 ac, .int .u64 ge, .sl true 22 rc, .int .i64 fi, .bool fa], .var [.msl 5 2 un, .msl 5 3 cn, .sl true 85 qu, .bool am, .int .i64 lf, .bool dn], .arr 5 du, .arr 5 cu]))
  (cond (okDk un cn (Dk.mk du cu qu am lf dn) && okLg (Dk.mk du cu qu am lf dn) (Lg.mk ac ge rc fi fa))
  (cond (decide ((IntKind.wrap .i64 ((x.length : Int) + 10)) > (Lg.free (Lg.mk ac ge rc fi fa) (Dk.mk du cu qu am lf dn))))
  (some ([.one (.int .i64 16)], [.var [.ptr 1 0, .int .i64 ac, .int .u64 ge, .sl true 22 rc, .int .i64 fi, .bool fa], .var [.msl 5 2 un, .msl 5 3 cn, .sl true 85 qu, .bool am, .int .i64 lf, .bool dn], .arr 5 du, .arr 5 cu]))
  (cond (okV ge && okRx fi x)
  (cond (okDk un cn (Dk.mk du cu qu am lf dn) && okSeg ac)
  (cond (true && ((sb1 (.var [.ptr 1 0, .int .i64 ac, .int .u64 ge, .sl true 22 rc, .int .i64 fi, .bool fa])) && ((sb1 (.var [.msl 5 2 un, .msl 5 3 cn, .sl true 85 qu, .bool am, .int .i64 lf, .bool dn])) && ((sb1 (.arr 5 du)) && ((sb1 (.arr 5 cu)) && true)))))
  (cond (Nat.beq (wEnc ge fi x).length (wEnc ge fi x).length)
  (cond (okDk un cn (Dk.mk du cu qu am lf dn) && okWx (Dk.mk du cu qu am lf dn) (wEnc ge fi x))
  (cond ((Dr.e z1) != 0)
  (some ([.one (.int .i64 (Dr.e z1))], [.var [.ptr 1 0, .int .i64 ac, .int .u64 ge, .sl true 22 rc, .int .i64 fi, .bool ((Dr.e z1) != 0)], .var [.msl 5 2 un, .msl 5 3 cn, .sl true 85 (Dk.q (Dr.d z1)), .bool (Dk.arm (Dr.d z1)), .int .i64 (Dk.left (Dr.d z1)), .bool (Dk.down (Dr.d z1))], .arr 5 (Dk.dur (Dr.d z1)), .arr 5 (Dk.cur (Dr.d z1))]))
  (cond (fits (([] : List (List Cell)).length + x.length))
  (cond (fits (rc.length + [[Cell.slice 5 (([] : List (List Cell)) ++ x)]].length))
  (some ([.one (.int .i64 0)], [.var [.ptr 1 0, .int .i64 ac, .int .u64 ge, .sl true 22 (rc ++ [[Cell.slice 5 (([] : List (List Cell)) ++ x)]]), .int .i64 (IntKind.wrap .i64 (fi + ((wEnc ge fi x).length : Int))), .bool ((Dr.e z1) != 0)], .var [.msl 5 2 un, .msl 5 3 cn, .sl true 85 (Dk.q (Dr.d z1)), .bool (Dk.arm (Dr.d z1)), .int .i64 (Dk.left (Dr.d z1)), .bool (Dk.down (Dr.d z1))], .arr 5 (Dk.dur (Dr.d z1)), .arr 5 (Dk.cur (Dr.d z1))]))
  none)
  none))
  none)
  none)
  none)
  none)
  none))
  none))) := by kernel_rfl

theorem e33_c1 (m : Nat) (x : List (List Cell)) : runF E (callOf L62) (m + 1) 33 [.one (.nilp), .one (.sl false 5 x)] [] =
  (some ([.one (.int .i64 17)], [])) := by kernel_rfl

theorem e33_c2 (m : Nat) (ac ge : Int) (rc : List (List Cell)) (fi : Int) (fa : Bool) (un cn : Nat) (qu : List (List Cell)) (am : Bool) (lf : Int) (dn : Bool) (du cu : List (List Cell)) : runF E (callOf L62) (m + 1) 33 [.one (.ptr 0 0), .one (.nils)] [.var [.ptr 1 0, .int .i64 ac, .int .u64 ge, .sl true 22 rc, .int .i64 fi, .bool fa], .var [.msl 5 2 un, .msl 5 3 cn, .sl true 85 qu, .bool am, .int .i64 lf, .bool dn], .arr 5 du, .arr 5 cu] =
  let z1 := Dk.store (Dk.mk du cu qu am lf dn) (IntKind.wrap .i64 ((ac * Dk.half (Dk.mk du cu qu am lf dn) + 32) + fi)) (wEnc ge fi ([] : List (List Cell)))
  (cond ((useE fa) != 0)
  (some ([.one (.int .i64 (useE fa))], [.var [.ptr 1 0, .int .i64 ac, .int .u64 ge, .sl true 22 rc, .int .i64 fi, .bool fa], .var [.msl 5 2 un, .msl 5 3 cn, .sl true 85 qu, .bool am, .int .i64 lf, .bool dn], .arr 5 du, .arr 5 cu]))
  (cond ((recE ([] : List (List Cell))) != 0)
  (some ([.one (.int .i64 (recE ([] : List (List Cell))))], [.var [.ptr 1 0, .int .i64 ac, .int .u64 ge, .sl true 22 rc, .int .i64 fi, .bool fa], .var [.msl 5 2 un, .msl 5 3 cn, .sl true 85 qu, .bool am, .int .i64 lf, .bool dn], .arr 5 du, .arr 5 cu]))
  (cond (okDk un cn (Dk.mk du cu qu am lf dn) && okLg (Dk.mk du cu qu am lf dn) (Lg.mk ac ge rc fi fa))
  (cond (decide ((10 : Int) > (Lg.free (Lg.mk ac ge rc fi fa) (Dk.mk du cu qu am lf dn))))
  (some ([.one (.int .i64 16)], [.var [.ptr 1 0, .int .i64 ac, .int .u64 ge, .sl true 22 rc, .int .i64 fi, .bool fa], .var [.msl 5 2 un, .msl 5 3 cn, .sl true 85 qu, .bool am, .int .i64 lf, .bool dn], .arr 5 du, .arr 5 cu]))
  (cond (okV ge && okRx fi ([] : List (List Cell)))
  (cond (okDk un cn (Dk.mk du cu qu am lf dn) && okSeg ac)
  (cond (true && ((sb1 (.var [.ptr 1 0, .int .i64 ac, .int .u64 ge, .sl true 22 rc, .int .i64 fi, .bool fa])) && ((sb1 (.var [.msl 5 2 un, .msl 5 3 cn, .sl true 85 qu, .bool am, .int .i64 lf, .bool dn])) && ((sb1 (.arr 5 du)) && ((sb1 (.arr 5 cu)) && true)))))
  (cond (Nat.beq (wEnc ge fi ([] : List (List Cell))).length (wEnc ge fi ([] : List (List Cell))).length)
  (cond (okDk un cn (Dk.mk du cu qu am lf dn) && okWx (Dk.mk du cu qu am lf dn) (wEnc ge fi ([] : List (List Cell))))
  (cond ((Dr.e z1) != 0)
  (some ([.one (.int .i64 (Dr.e z1))], [.var [.ptr 1 0, .int .i64 ac, .int .u64 ge, .sl true 22 rc, .int .i64 fi, .bool ((Dr.e z1) != 0)], .var [.msl 5 2 un, .msl 5 3 cn, .sl true 85 (Dk.q (Dr.d z1)), .bool (Dk.arm (Dr.d z1)), .int .i64 (Dk.left (Dr.d z1)), .bool (Dk.down (Dr.d z1))], .arr 5 (Dk.dur (Dr.d z1)), .arr 5 (Dk.cur (Dr.d z1))]))
  (cond (fits (rc.length + [[Cell.slice 5 (([] : List (List Cell)) ++ ([] : List (List Cell)))]].length))
  (some ([.one (.int .i64 0)], [.var [.ptr 1 0, .int .i64 ac, .int .u64 ge, .sl true 22 (rc ++ [[Cell.slice 5 (([] : List (List Cell)) ++ ([] : List (List Cell)))]]), .int .i64 (IntKind.wrap .i64 (fi + ((wEnc ge fi ([] : List (List Cell))).length : Int))), .bool ((Dr.e z1) != 0)], .var [.msl 5 2 un, .msl 5 3 cn, .sl true 85 (Dk.q (Dr.d z1)), .bool (Dk.arm (Dr.d z1)), .int .i64 (Dk.left (Dr.d z1)), .bool (Dk.down (Dr.d z1))], .arr 5 (Dk.dur (Dr.d z1)), .arr 5 (Dk.cur (Dr.d z1))]))
  none))
  none)
  none)
  none)
  none)
  none))
  none))) := by kernel_rfl

theorem e26 (m : Nat)  : runF E (callOf L18) (m + 1) 26 [] [] =
  let z1 := appM (Lr.d (openM (newDk 8))) (Lr.l (openM (newDk 8))) [[Cell.int .u8 48], [Cell.int .u8 49], [Cell.int .u8 50], [Cell.int .u8 51], [Cell.int .u8 52], [Cell.int .u8 53], [Cell.int .u8 54], [Cell.int .u8 55], [Cell.int .u8 56], [Cell.int .u8 57]]
  let z2 := repM (Lr.d (openM (Dk.crash (Lr.d z1) 0 0))) (Lr.l (openM (Dk.crash (Lr.d z1) 0 0))) [[Cell.slice 5 [[Cell.int .u8 1]]], [Cell.slice 5 [[Cell.int .u8 2], [Cell.int .u8 3]]]]
  (cond (okDk (secN 8) (secN 8) (newDk 8) && (pd ((Dk.q (newDk 8)).length ≤ 1000000) && ((Lr.e (openM (newDk 8))) == 0)))
  (cond (okDk (secN 8) (secN 8) (Lr.d (openM (newDk 8))) && okLg (Lr.d (openM (newDk 8))) (Lr.l (openM (newDk 8))) && okAp (Lr.d (openM (newDk 8))) [[Cell.int .u8 48], [Cell.int .u8 49], [Cell.int .u8 50], [Cell.int .u8 51], [Cell.int .u8 52], [Cell.int .u8 53], [Cell.int .u8 54], [Cell.int .u8 55], [Cell.int .u8 56], [Cell.int .u8 57]])
  (cond ((Lr.e z1) != 0)
  (some ([.one (.bool false)], []))
  (cond (okDk (secN 8) (secN 8) (Lr.d z1) && okLg (Lr.d z1) (Lr.l z1))
  (cond ((Lg.free (Lr.l z1) (Lr.d z1)) != 76)
  (some ([.one (.bool false)], []))
  (cond (okDk (secN 8) (secN 8) (Lr.d z1))
  (cond (okDk (secN 8) (secN 8) (Dk.crash (Lr.d z1) 0 0) && (pd ((Dk.q (Dk.crash (Lr.d z1) 0 0)).length ≤ 1000000) && ((Lr.e (openM (Dk.crash (Lr.d z1) 0 0))) == 0)))
  (cond (okDk (secN 8) (secN 8) (Lr.d (openM (Dk.crash (Lr.d z1) 0 0))) && okLg (Lr.d (openM (Dk.crash (Lr.d z1) 0 0))) (Lr.l (openM (Dk.crash (Lr.d z1) 0 0))) && okRp (Lr.d (openM (Dk.crash (Lr.d z1) 0 0))) [[Cell.slice 5 [[Cell.int .u8 1]]], [Cell.slice 5 [[Cell.int .u8 2], [Cell.int .u8 3]]]])
  (cond ((Lr.e z2) != 0)
  (some ([.one (.bool false)], []))
  (cond (okRs (Lg.recs (Lr.l z2)))
  (cond (((cloneR (Lg.recs (Lr.l z2))).length : Int) == 2)
  (cond (inB 1 (cloneR (Lg.recs (Lr.l z2))).length)
  (cond ((toBytes (nl (Abs.rowAt (cloneR (Lg.recs (Lr.l z2))) 1) 0)) == ([2, 3] : List UInt8))
  (cond ((Lg.gen (Lr.l z2)) == 2)
  (cond (okDk (secN 8) (secN 8) (Lr.d z2) && okLg (Lr.d z2) (Lr.l z2) && okAp (Lr.d z2) [])
  (cond ((Lr.e (appM (Lr.d z2) (Lr.l z2) [])) == 2)
  (cond (okRs (Lg.recs (Lr.l z1)))
  (some ([.one (.bool (((cloneR (Lg.recs (Lr.l z1))).length : Int) == 1))], []))
  none)
  (some ([.one (.bool false)], [])))
  none)
  (some ([.one (.bool false)], [])))
  (some ([.one (.bool false)], [])))
  none)
  (some ([.one (.bool false)], [])))
  none))
  none)
  none)
  none))
  none))
  none)
  none) := by kernel_rfl

end Go.Proofs.Ytpafnokcmhlbgaa

namespace Go.Proofs.Ytpafnokcmhlbgaa

open Go.Abs

abbrev lV (p : Nat) (l : Lg) : Block := .var [.ptr p 0, .int .i64 l.act, .int .u64 l.gen, .sl true 22 l.recs, .int .i64 l.fin, .bool l.failed]

abbrev dV1 (un cn : Nat) (d : Dk) : Block := .var [.msl 5 2 un, .msl 5 3 cn, .sl true 85 d.q, .bool d.arm, .int .i64 d.left, .bool d.down]

abbrev lB (un cn : Nat) (d : Dk) (l : Lg) : List Block := [lV 1 l, dV1 un cn d, .arr 5 d.dur, .arr 5 d.cur]

theorem dk_eta (d : Dk) : Dk.mk d.dur d.cur d.q d.arm d.left d.down = d := rfl

theorem k70 (un cn : Nat) (d : Dk) (h : okDk un cn d = true) : runF E (callOf L24) 1 70 [.one (.ptr 0 0)] (dB un cn d) = some ([.one (.int .i64 d.half)], dB un cn d) := by
  obtain ⟨hu, hc, hd⟩ := okDk_of h
  have h1 := hd.le
  rw [e70]
  refine ct h ?_
  have e : IntKind.wrap .i64 (IntKind.wrap .i64 (Int.tdiv (secs d.dur) 2) * 32) = d.half := by
    unfold secs Dk.half
    rw [Int.tdiv_eq_ediv_of_nonneg (by omega), wrap64 (n := ((d.dur.length / 32 : Nat) : Int) / 2) (by omega) (by omega), wrap64 (by omega) (by omega)]
    omega
  rw [e]

theorem seg_half {d : Dk} (hd : DkOk d) {s : Int} (hs : s = 0 ∨ s = 1) : 0 ≤ s * d.half ∧ s * d.half + d.half ≤ d.dur.length ∧ s * d.half ≤ 32768 := by
  have := half_of hd
  rcases hs with rfl | rfl
  · rw [Int.zero_mul]; omega
  · rw [Int.one_mul]; omega

theorem k45 (s : Int) (un cn : Nat) (d : Dk) (l : Lg) (h : okDk un cn d = true) (hs : okSeg s = true) : runF E (callOf L70) 1 45 [.one (.ptr 0 0), .one (.int .i64 s)] (lB un cn d l) = some ([.one (.int .i64 (s * d.half))], lB un cn d l) := by
  obtain ⟨hu, hc, hd⟩ := okDk_of h
  have := seg_half hd (seg_of hs)
  rw [e45]
  refine ct h ?_
  rw [dk_eta, wrap64 (n := s * d.half) (by omega) (by omega)]

theorem k47 (s : Int) (un cn : Nat) (d : Dk) (l : Lg) (h : okDk un cn d = true) (hs : okSeg s = true) : runF E (callOf L45) 1 47 [.one (.ptr 0 0), .one (.int .i64 s)] (lB un cn d l) = some ([.one (.int .i64 (s * d.half + 32))], lB un cn d l) := by
  obtain ⟨hu, hc, hd⟩ := okDk_of h
  have := seg_half hd (seg_of hs)
  rw [e47]
  refine ct (and_mk h hs) ?_
  rw [dk_eta, wrap64 (n := s * d.half + 32) (by omega) (by omega)]

theorem k48 (un cn : Nat) (d : Dk) (l : Lg) (h : okDk un cn d = true) : runF E (callOf L47) 1 48 [.one (.ptr 0 0)] (lB un cn d l) = some ([.one (.int .i64 (d.half - 32))], lB un cn d l) := by
  obtain ⟨hu, hc, hd⟩ := okDk_of h
  have := half_of hd
  rw [e48]
  refine ct h ?_
  rw [dk_eta, wrap64 (n := d.half - 32) (by omega) (by omega)]

theorem okWx_mk {d : Dk} {x : List (List Cell)} (hx : okB x = true) (hq : d.q.length + x.length ≤ 4000000) : okWx d x = true := and_mk hx (pd_t hq)

theorem okWx_of {d : Dk} {x : List (List Cell)} (h : okWx d x = true) : okB x = true ∧ d.q.length + x.length ≤ 4000000 := by
  unfold okWx at h
  simp only [Bool.and_eq_true] at h
  exact ⟨h.1, pd_of h.2⟩

theorem kept_ok {un cn : Nat} {a b : Dk} {k : Nat} (h : okDk un cn a = true) (i : Kept a b k) : okDk un cn b = true := by
  obtain ⟨hu, hc, hd⟩ := okDk_of h
  exact okDk_mk (by rw [i.len]; exact hu) (by rw [i.ok.cd, i.len, hc]; exact hd.cd) i.ok

theorem k50 (o : Int) (x : List (List Cell)) (un cn : Nat) (d : Dk) (l : Lg) (h : okDk un cn d = true) (hx : okWx d x = true) : runF E (callOf L48) 1 50 [.one (.ptr 0 0), .one (.int .i64 o), .one (.sl false 5 x)] (lB un cn d l) =
    some ([.one (.int .i64 (d.store o x).e)], lB un cn (d.store o x).d ⟨l.act, l.gen, l.recs, l.fin, (d.store o x).e != 0⟩) := by
  obtain ⟨hu, hc, hd⟩ := okDk_of h
  obtain ⟨hb, hq⟩ := okWx_of hx
  have hk := write_kept (o := o) hd hb hq
  rw [e50]
  dsimp only
  refine ct (and_mk h hx) ?_
  have e : Dk.mk d.dur d.cur d.q d.arm d.left d.down = d := rfl
  rw [e]
  unfold Dk.store
  by_cases h0 : (d.write o x).e = 0
  · rw [if_pos h0]
    exact ct (by simpa using h0) (ct (kept_ok h hk) rfl)
  · rw [if_neg h0]
    exact cf (by simpa using h0) rfl

theorem cloneR_len (a : List (List Cell)) : (cloneR a).length = a.length := by
  induction a with
  | nil => rfl
  | cons r a ih => simp [cloneR, ih]

theorem okRs_of {r : List (List Cell)} (h : okRs r = true) : r.length ≤ 65536 ∧ ∀ q ∈ r, okB (nl q 0) = true ∧ (nl q 0).length ≤ 30000 := by
  unfold okRs at h
  simp only [Bool.and_eq_true, List.all_eq_true] at h
  exact ⟨pd_of h.1, fun q hq => ⟨(h.2 q hq).1, pd_of (h.2 q hq).2⟩⟩

theorem okRs_mk {r : List (List Cell)} (h1 : r.length ≤ 65536) (h2 : ∀ q ∈ r, okB (nl q 0) = true ∧ (nl q 0).length ≤ 30000) : okRs r = true := by
  unfold okRs
  refine and_mk (pd_t h1) ?_
  rw [List.all_eq_true]; exact fun q hq => and_mk (h2 q hq).1 (pd_t (h2 q hq).2)

theorem okRl_of {r : List (List Cell)} (h : okRl r = true) : r.length ≤ 65536 ∧ ∀ q ∈ r, okB (nl q 0) = true := by
  unfold okRl at h
  simp only [Bool.and_eq_true, List.all_eq_true] at h
  exact ⟨pd_of h.1, h.2⟩

theorem okRl_mk {r : List (List Cell)} (h1 : r.length ≤ 65536) (h2 : ∀ q ∈ r, okB (nl q 0) = true) : okRl r = true := by
  unfold okRl
  refine and_mk (pd_t h1) ?_
  rw [List.all_eq_true]; exact h2

theorem rowAt_mem {x : List (List Cell)} {i : Nat} (h : i < x.length) : Abs.rowAt x i ∈ x := by
  have hd : x.drop i = Abs.rowAt x i :: x.drop (i + 1) := drop_cons x i h
  exact List.mem_of_mem_drop (hd ▸ List.mem_cons_self : Abs.rowAt x i ∈ x.drop i)

theorem l59 (r : List (List Cell)) (h : okRs r = true) : ∀ (k i : Nat) (acc : List (List Cell)), i + k = r.length → acc.length = i → ∃ m, goF E (callOf L22) F59 0 m P59_0 (M59_0 acc r r.length i) = some ([.one (.sl true 22 (acc ++ cloneR (r.drop i)))], []) := by
  obtain ⟨h1, h2⟩ := okRs_of h
  intro k
  induction k with
  | zero =>
    intro i acc hi ha
    refine ⟨1, ?_⟩
    rw [e59_0, List.drop_eq_nil_of_le (by omega)]
    refine cf (decide_eq_false (by omega)) ?_
    simp [cloneR]
  | succ k ih =>
    intro i acc hi ha
    have hq := h2 _ (rowAt_mem (x := r) (i := i) (by omega))
    obtain ⟨m, hm⟩ := ih (i + 1) (acc ++ [wRow (nl (Abs.rowAt r i) 0)]) (by omega) (by simp; omega)
    refine ⟨m + 1, ?_⟩
    rw [e59_0, drop_cons r i (by omega), Int.toNat_natCast, List.nil_append, wrap64 (n := (i : Int) + 1) (by omega) (by omega)]
    refine ct (decide_eq_true (by omega)) (ct (inB_nat' (by omega)) (ct (fits_mk (by simp; omega)) (ct (fits_mk (by simp; omega)) ?_)))
    rw [cloneR]
    rw [List.append_assoc] at hm
    exact_mod_cast hm

theorem k59 (r : List (List Cell)) (h : okRs r = true) : ∃ m, runF E (callOf L22) m 59 [.one (.sl false 22 r)] [] = some ([.one (.sl true 22 (cloneR r))], []) := by
  obtain ⟨m, hm⟩ := l59 r h r.length 0 [] (by omega) rfl
  exact ⟨m + 1, by rw [e59]; simpa using hm⟩

theorem k28 (un cn : Nat) (d : Dk) (l : Lg) (h : okRs l.recs = true) : runF E (callOf L59) 1 28 [.one (.ptr 0 0)] (lB un cn d l) = some ([.one (.sl true 22 (cloneR l.recs))], lB un cn d l) := by
  rw [e28]
  exact ct h rfl

theorem k29 (un cn : Nat) (d : Dk) (l : Lg) : runF E (callOf L28) 1 29 [.one (.ptr 0 0)] (lB un cn d l) = some ([.one (.int .u64 l.gen)], lB un cn d l) := by rw [e29]

theorem okLg_of {d : Dk} {l : Lg} (h : okLg d l = true) : LgOk d l := by
  unfold okLg at h
  simpa using h

theorem okLg_mk {d : Dk} {l : Lg} (h : LgOk d l) : okLg d l = true := by
  unfold okLg
  simpa using h

theorem kept_lg {a b : Dk} {k : Nat} {l : Lg} (h : LgOk a l) (i : Kept a b k) : LgOk b l := by
  have e := i.half
  exact ⟨h.act, h.gen, by rw [e]; exact h.half, by rw [e]; exact h.fin, h.recs⟩

theorem sbs (a b c e : Block) : (true && (sb1 a && (sb1 b && (sb1 c && (sb1 e && true))))) = true := by simp [sb1_t]

theorem free_of {d : Dk} {l : Lg} (hd : DkOk d) (hl : LgOk d l) : 0 ≤ l.free d ∧ l.free d ≤ 32768 ∧ l.fin ≤ 32768 := by
  have h1 := half_of hd
  have h2 := hl.fin
  unfold Lg.free
  omega

theorem k30 (un cn : Nat) (d : Dk) (l : Lg) (h : okDk un cn d = true) (hl : okLg d l = true) : runF E (callOf L29) 1 30 [.one (.ptr 0 0)] (lB un cn d l) = some ([.one (.int .i64 (l.free d))], lB un cn d l) := by
  obtain ⟨hu, hc, hd⟩ := okDk_of h
  have h1 := free_of hd (okLg_of hl)
  unfold Lg.free at h1 ⊢
  rw [e30]
  refine ct h (ct (sbs _ _ _ _) ?_)
  rw [dk_eta, wrap64 (n := d.half - 32 - l.fin) (by omega) (by omega)]

theorem k61 (un cn : Nat) (d : Dk) (l : Lg) : runF E (callOf L30) 1 61 [.one (.ptr 0 0)] (lB un cn d l) = some ([.one (.int .i64 (useE l.failed))], lB un cn d l) := by
  obtain ⟨ac, ge, rc, fi, fa⟩ := l
  rw [e61]
  cases fa <;> rfl

theorem k62 (x : List (List Cell)) : runF E (callOf L61) 1 62 [.one (.sl false 5 x)] [] = some ([.one (.int .i64 (recE x))], []) := by
  rw [e62]
  unfold recE
  by_cases h1 : x.length = 0
  · rw [if_pos h1]
    exact ct (by simp [h1]) rfl
  rw [if_neg h1]
  refine cf (beq_eq_false_iff_ne.mpr (by omega)) ?_
  by_cases h2 : 30000 < x.length
  · rw [if_pos h2]
    exact ct (decide_eq_true (by omega)) rfl
  · rw [if_neg h2]
    exact cf (decide_eq_false (by omega)) rfl

theorem okAp_of {d : Dk} {x : List (List Cell)} (h : okAp d x = true) : okB x = true ∧ d.q.length ≤ 1000000 := by
  unfold okAp at h
  simp only [Bool.and_eq_true] at h
  exact ⟨h.1, pd_of h.2⟩

theorem okAp_mk {d : Dk} {x : List (List Cell)} (hx : okB x = true) (hq : d.q.length ≤ 1000000) : okAp d x = true := and_mk hx (pd_t hq)

theorem recE_of {x : List (List Cell)} (h : recE x = 0) : 1 ≤ x.length ∧ x.length ≤ 30000 := by
  unfold recE at h
  split at h
  · cases h
  · split at h
    · cases h
    · omega

theorem k33w (x : List (List Cell)) (un cn : Nat) (d : Dk) (l : Lg) (h : okDk un cn d = true) (hl : okLg d l = true) (hx : okAp d x = true) : runF E (callOf L62) 1 33 [.one (.ptr 0 0), .one (.sl false 5 x)] (lB un cn d l) =
    some ([.one (.int .i64 (appM d l x).e)], lB un cn (appM d l x).d (appM d l x).l) := by
  obtain ⟨hu, hc, hd⟩ := okDk_of h
  obtain ⟨hb, hq⟩ := okAp_of hx
  have hlg := okLg_of hl
  have hf := free_of hd hlg
  have hfin := hlg.fin
  have hrec := hlg.recs
  have hhl := half_of hd
  have hsg := seg_half hd (s := l.act) (by have := hlg.act; omega)
  have hseg : okSeg l.act = true := seg_mk (by have := hlg.act; omega)
  rw [e33]
  dsimp only
  have e : Dk.mk d.dur d.cur d.q d.arm d.left d.down = d := rfl
  have e2 : Lg.mk l.act l.gen l.recs l.fin l.failed = l := rfl
  rw [e, e2]
  rw [wrap64 (n := l.act * d.half + 32 + l.fin) (by omega) (by omega)]
  unfold appM
  by_cases h1 : l.failed = true
  · rw [if_pos h1]
    refine ct (by rw [h1]; rfl) ?_
    show some ([AV.one (AC.int .i64 (useE l.failed))], lB un cn d l) = some ([.one (.int .i64 15)], lB un cn d l)
    rw [show useE l.failed = 15 by rw [h1]; rfl]
  rw [if_neg h1]
  have h1 : l.failed = false := by simpa using h1
  refine cf (by rw [h1]; rfl) ?_
  by_cases h2 : recE x = 0
  rotate_left
  · rw [if_pos h2]
    exact ct (by simpa using h2) rfl
  rw [if_neg (by simp [h2])]
  refine cf (by simpa using h2) (ct (and_mk h hl) ?_)
  obtain ⟨h3, h4⟩ := recE_of h2
  rw [wrap64 (n := (x.length : Int) + 10) (by omega) (by omega)]
  by_cases h5 : l.free d < x.length + 10
  · rw [if_pos h5]
    exact ct (decide_eq_true h5) rfl
  rw [if_neg h5]
  have hwl := wEnc_len l.gen l.fin x
  have hwb := wEnc_okB l.gen l.fin hb
  refine cf (decide_eq_false h5) (ct (and_mk (okV_mk hlg.gen.1 hlg.gen.2) (and_mk hb (and_mk (pd_t (by omega)) (and_mk (pd_t (by omega)) (pd_t (by omega)))))) (ct (and_mk h hseg) (ct (sbs _ _ _ _) (ct (nbeq_of rfl) (ct (and_mk h (okWx_mk hwb (by omega))) ?_)))))
  by_cases h6 : (d.store (l.act * d.half + 32 + l.fin) (wEnc l.gen l.fin x)).e = 0
  · rw [if_pos h6]
    refine cf (by simpa using h6) (ct (fits_mk (by simp; omega)) (ct (fits_mk (by simp; omega)) ?_))
    rw [hwl, wrap64 (n := l.fin + ((x.length + 10 : Nat) : Int)) (by omega) (by omega), h6]
    have e3 : l.fin + ((x.length + 10 : Nat) : Int) = l.fin + x.length + 10 := by omega
    rw [e3]
    rfl
  · rw [if_neg h6]
    have e4 : ((d.store (l.act * d.half + 32 + l.fin) (wEnc l.gen l.fin x)).e != 0) = true := by simpa using h6
    refine ct e4 ?_
    rw [e4]

end Go.Proofs.Ytpafnokcmhlbgaa

namespace Go.Proofs.Ytpafnokcmhlbgaa

open Go.Abs

theorem encW_app (g : Int) (a b : List (List Cell)) : ∀ (o : Int), encW g o (a ++ b) = encW g o a ++ encW g (o + recsN a) b := by
  induction a with
  | nil => intro o; simp [encW, recsN]
  | cons r a ih =>
    intro o
    simp only [List.cons_append, encW, recsN, ih, List.append_assoc]
    have e : o + ((nl r 0).length : Int) + 10 + recsN a = o + (((nl r 0).length : Int) + 10 + recsN a) := by omega
    rw [e]

theorem encW_len (g : Int) (a : List (List Cell)) : ∀ (o : Int), ((encW g o a).length : Int) = recsN a := by
  induction a with
  | nil => intro o; rfl
  | cons r a ih =>
    intro o
    have h1 := ih (o + ((nl r 0).length : Int) + 10)
    have h2 := wEnc_len g o (nl r 0)
    simp only [encW, recsN, List.length_append]
    omega

theorem encW_okB (g : Int) (a : List (List Cell)) : ∀ (o : Int), (∀ r ∈ a, okB (nl r 0) = true) → okB (encW g o a) = true := by
  induction a with
  | nil => intro o _; rfl
  | cons r a ih => intro o h; exact okB_app (wEnc_okB _ _ (h r List.mem_cons_self)) (ih _ fun s hs => h s (List.mem_cons_of_mem _ hs))

theorem recsN_app (a b : List (List Cell)) : recsN (a ++ b) = recsN a + recsN b := by
  induction a with
  | nil => simp [recsN]
  | cons r a ih => simp only [List.cons_append, recsN, ih]; omega

theorem recsN_nn (a : List (List Cell)) : 0 ≤ recsN a ∧ (a.length : Int) ≤ recsN a := by
  induction a with
  | nil => simp [recsN]
  | cons r a ih => simp only [recsN, List.length_cons]; omega

theorem recsN_le {a : List (List Cell)} (h : recsE a = 0) : recsN a ≤ 30010 * a.length := by
  induction a with
  | nil => simp [recsN]
  | cons r a ih =>
    simp only [recsE] at h
    split at h
    · contradiction
    · rename_i hr
      have := recE_of (Classical.not_not.mp hr)
      have := ih h
      simp only [recsN, List.length_cons]
      omega

theorem recsE_app {a b : List (List Cell)} (h : recsE a = 0) : recsE (a ++ b) = recsE b := by
  induction a with
  | nil => rfl
  | cons r a ih =>
    simp only [List.cons_append, recsE] at h ⊢
    split at h
    · contradiction
    · rename_i hr
      rw [if_neg hr, ih h]

theorem recsE_mem {a : List (List Cell)} (h : recsE a = 0) : ∀ r ∈ a, 1 ≤ (nl r 0).length ∧ (nl r 0).length ≤ 30000 := by
  induction a with
  | nil => intro r hr; cases hr
  | cons s a ih =>
    simp only [recsE] at h
    split at h
    · contradiction
    · rename_i hs
      intro r hr
      rcases List.mem_cons.mp hr with rfl | hr
      · exact recE_of (Classical.not_not.mp hs)
      · exact ih h r hr

theorem take_succ' {x : List (List Cell)} {i : Nat} (h : i < x.length) : x.take (i + 1) = x.take i ++ [Abs.rowAt x i] := by
  have e1 : x.take (i + 1) = x.take i ++ (x.drop i).take 1 := List.take_add
  rw [e1, drop_cons x i h]; rfl

theorem zeros_okB (n : Int) : okB (zeros n) = true := okB_rep _

theorem zeros_len (n : Int) : (zeros n).length = n.toNat := List.length_replicate ..

theorem l34_1 (un cn : Nat) (d : Dk) (l : Lg) (r : List (List Cell)) (h : okDk un cn d = true) (hl : okLg d l = true) (hr : okRl r = true) (hq : d.q.length ≤ 1000000) (hf : l.failed = false) (hE : recsE r = 0) (hN : recsN r ≤ d.half - 32) (hg : l.gen ≠ 18446744073709551615) :
    ∀ (k i : Nat), i + k = r.length → ∃ m, goF E (callOf L33) F34 4 m P34_1 (M34_1 r (recsN r) (1 - l.act) (l.gen + 1) (encW (l.gen + 1) 0 (r.take i)).length r r.length i l.act l.gen l.recs l.fin l.failed un cn d.q d.arm d.left d.down d.dur d.cur (encW (l.gen + 1) 0 (r.take i))) =
      some ([.one (.int .i64 (repM d l r).e)], lB un cn (repM d l r).d (repM d l r).l) := by
  obtain ⟨hu, hc, hd⟩ := okDk_of h
  have hlg := okLg_of hl
  obtain ⟨hr1, hr2⟩ := okRl_of hr
  have hh := half_of hd
  have hgen := hlg.gen
  have hact := hlg.act
  have hseg : okSeg (1 - l.act) = true := seg_mk (by omega)
  have hsh := seg_half hd (s := 1 - l.act) (by omega)
  have hnn := recsN_nn r
  intro k
  induction k with
  | zero =>
    intro i hi
    have hi' : i = r.length := by omega
    subst hi'
    rw [List.take_length]
    have hel := encW_len (l.gen + 1) r 0
    have heb : okB (encW (l.gen + 1) 0 r) = true := encW_okB _ _ _ hr2
    refine ⟨1, ?_⟩
    rw [e34_1]
    dsimp only
    rw [dk_eta, wrap64 (n := d.half - 32 - recsN r) (by omega) (by omega)]
    have eB : encW (l.gen + 1) 0 r ++ List.replicate (d.half - 32 - recsN r).toNat [Cell.int .u8 0] = repB d l r := rfl
    have eBl : (repB d l r).length = (d.half - 32).toNat := by rw [← eB, List.length_append, List.length_replicate]; omega
    have eBb : okB (repB d l r) = true := okB_app heb (okB_rep _)
    have eD : d.store ((1 - l.act) * d.half + 32) (repB d l r) = repD d l r := rfl
    rw [eB, eD]
    have hk : Kept d (repD d l r).d (repB d l r).length := store_kept hd eBb (by rw [eBl]; omega)
    have hkh : (repD d l r).d.half = d.half := hk.half
    have hkq := hk.q
    rw [hkh]
    have eH : (repD d l r).d.store ((1 - l.act) * d.half) (wHdr (l.gen + 1)) = repH d l r := rfl
    rw [eH]
    refine cf (decide_eq_false (by omega)) (ct h (ct (nbeq_of rfl) (ct (okMake_mk (by omega) (by omega)) (ct (fits_mk (by omega)) (ct (and_mk h hseg) (ct (nbeq_of (by rw [eBl]; omega)) (ct (and_mk h (okWx_mk eBb (by rw [eBl]; omega))) ?_)))))))
    unfold repM
    rw [if_neg (by simp [hf]), if_neg (by simp [hE]), if_neg (by omega)]
    by_cases h1 : (repD d l r).e = 0
    · rw [if_neg (by simp [h1])]
      refine cf (by simpa using h1) (ct (and_mk (kept_ok h hk) hseg) (ct (okV_mk (by omega) (by omega)) (ct (and_mk (kept_ok h hk) (okWx_mk (wHdr_okB _) (by rw [wHdr_len]; omega))) ?_)))
      by_cases h2 : (repH d l r).e = 0
      · rw [if_neg (by simp [h2])]
        refine cf (by simpa using h2) (ct (okRs_mk hr1 fun q hq => ⟨hr2 q hq, (recsE_mem hE q hq).2⟩) ?_)
        rw [h2]
        rfl
      · rw [if_pos h2]
        have e4 : ((repH d l r).e != 0) = true := by simpa using h2
        refine ct e4 ?_
        rw [e4]
    · rw [if_pos h1]
      have e4 : ((repD d l r).e != 0) = true := by simpa using h1
      refine ct e4 ?_
      rw [e4]
  | succ k ih =>
    intro i hi
    obtain ⟨m, hm⟩ := ih (i + 1) (by omega)
    refine ⟨m + 1, ?_⟩
    have hmem := rowAt_mem (x := r) (i := i) (by omega)
    have hts := take_succ' (x := r) (i := i) (by omega)
    have hsum : recsN r = recsN (r.take i) + recsN (r.drop i) := by rw [← recsN_app, List.take_append_drop]
    have hnd := recsN_nn (r.drop i)
    have hel := encW_len (l.gen + 1) (r.take i) 0
    have heb : okB (encW (l.gen + 1) 0 (r.take i)) = true := encW_okB _ _ _ fun q hq => hr2 q (List.mem_of_mem_take hq)
    have hx := recsE_mem hE _ hmem
    rw [hts, encW_app] at hm
    have e1 : encW (l.gen + 1) (0 + recsN (r.take i)) [Abs.rowAt r i] = wEnc (l.gen + 1) (recsN (r.take i)) (nl (Abs.rowAt r i) 0) := by simp [encW]
    rw [e1, ← hel] at hm
    rw [e34_1]
    dsimp only
    rw [Int.toNat_natCast, wrap64 (n := (i : Int) + 1) (by omega) (by omega)]
    refine ct (decide_eq_true (by omega)) (ct (inB_nat' (by omega)) (ct (and_mk (okV_mk (by omega) (by omega)) (and_mk (and_mk (hr2 _ hmem) (and_mk (pd_t (by omega)) (and_mk (pd_t (by omega)) (pd_t (by omega))))) (and_mk (and_mk (nbeq_of rfl) (pd_t (by omega))) (pd_t (by omega))))) ?_))
    exact_mod_cast hm

theorem l34_0 (un cn : Nat) (d : Dk) (l : Lg) (r : List (List Cell)) (h : okDk un cn d = true) (hl : okLg d l = true) (hr : okRl r = true) (hq : d.q.length ≤ 1000000) (hf : l.failed = false) :
    ∀ (k i : Nat), i + k = r.length → recsE (r.take i) = 0 → ∃ m, goF E (callOf L33) F34 4 m P34_0 (M34_0 r (recsN (r.take i)) r r.length i l.act l.gen l.recs l.fin l.failed un cn d.q d.arm d.left d.down d.dur d.cur) =
      some ([.one (.int .i64 (repM d l r).e)], lB un cn (repM d l r).d (repM d l r).l) := by
  obtain ⟨hu, hc, hd⟩ := okDk_of h
  have hlg := okLg_of hl
  obtain ⟨hr1, hr2⟩ := okRl_of hr
  have hgen := hlg.gen
  have hact := hlg.act
  have hnn := recsN_nn r
  intro k
  induction k with
  | zero =>
    intro i hi hE
    have hi' : i = r.length := by omega
    subst hi'
    rw [List.take_length] at hE ⊢
    by_cases h1 : d.half - 32 < recsN r ∨ l.gen = 18446744073709551615
    · refine ⟨1, ?_⟩
      rw [e34_0]
      unfold repM
      rw [if_neg (by simp [hf]), if_neg (by simp [hE]), if_pos h1]
      refine cf (decide_eq_false (by omega)) (ct h ?_)
      by_cases h2 : d.half - 32 < recsN r
      · exact ct (decide_eq_true h2) rfl
      · exact cf (decide_eq_false h2) (ct (by have : l.gen = 18446744073709551615 := by omega
                                              rw [this]; rfl) rfl)
    · obtain ⟨m, hm⟩ := l34_1 un cn d l r h hl hr hq hf hE (by omega) (by omega) r.length 0 (by omega)
      refine ⟨m + 1, ?_⟩
      rw [e34_0]
      refine cf (decide_eq_false (by omega)) (ct h (cf (decide_eq_false (by show ¬ (recsN r > d.half - 32); omega)) (cf (beq_eq_false_iff_ne.mpr (by omega)) ?_)))
      rw [wrap64 (n := 1 - l.act) (by omega) (by omega), wrapu (n := l.gen + 1) (by omega) (by omega)]
      exact hm
  | succ k ih =>
    intro i hi hE
    have hmem := rowAt_mem (x := r) (i := i) (by omega)
    have hts := take_succ' (x := r) (i := i) (by omega)
    have hle := recsN_le hE
    have hn0 := recsN_nn (r.take i)
    rw [List.length_take] at hle
    by_cases h1 : recE (nl (Abs.rowAt r i) 0) = 0
    · have hx := recE_of h1
      obtain ⟨m, hm⟩ := ih (i + 1) (by omega) (by rw [hts, recsE_app hE]; simp [recsE, h1])
      rw [hts, recsN_app] at hm
      have e1 : recsN (r.take i) + recsN [Abs.rowAt r i] = recsN (r.take i) + (((nl (Abs.rowAt r i) 0).length : Int) + 10) := by simp [recsN]
      rw [e1] at hm
      refine ⟨m + 1, ?_⟩
      rw [e34_0, Int.toNat_natCast, wrap64 (n := (i : Int) + 1) (by omega) (by omega), wrap64 (n := ((nl (Abs.rowAt r i) 0).length : Int) + 10) (by omega) (by omega), wrap64 (n := recsN (r.take i) + (((nl (Abs.rowAt r i) 0).length : Int) + 10)) (by omega) (by omega)]
      refine ct (decide_eq_true (by omega)) (ct (inB_nat' (by omega)) (cf (by simpa using h1) ?_))
      exact_mod_cast hm
    · refine ⟨1, ?_⟩
      have e2 : recsE r = recE (nl (Abs.rowAt r i) 0) := by
        have e3 : r = r.take i ++ (Abs.rowAt r i :: r.drop (i + 1)) := by rw [← drop_cons r i (by omega), List.take_append_drop]
        rw [e3, recsE_app hE, recsE, if_pos h1, ← e3]
      rw [e34_0, Int.toNat_natCast]
      unfold repM
      rw [if_neg (by simp [hf]), if_pos (by rw [e2]; exact h1), e2]
      exact ct (decide_eq_true (by omega)) (ct (inB_nat' (by omega)) (ct (by simpa using h1) rfl))

theorem okRp_of {d : Dk} {r : List (List Cell)} (h : okRp d r = true) : okRl r = true ∧ d.q.length ≤ 1000000 := by
  unfold okRp at h
  simp only [Bool.and_eq_true] at h
  exact ⟨h.1, pd_of h.2⟩

theorem okRp_mk {d : Dk} {r : List (List Cell)} (h : okRl r = true) (hq : d.q.length ≤ 1000000) : okRp d r = true := and_mk h (pd_t hq)

theorem k34 (r : List (List Cell)) (un cn : Nat) (d : Dk) (l : Lg) (h : okDk un cn d = true) (hl : okLg d l = true) (hr : okRp d r = true) : ∃ m, runF E (callOf L33) m 34 [.one (.ptr 0 0), .one (.sl false 22 r)] (lB un cn d l) =
    some ([.one (.int .i64 (repM d l r).e)], lB un cn (repM d l r).d (repM d l r).l) := by
  obtain ⟨hrl, hq⟩ := okRp_of hr
  cases hf : l.failed with
  | true =>
    refine ⟨1, ?_⟩
    have e : repM d l r = ⟨d, l, 15⟩ := by unfold repM; rw [if_pos hf]
    rw [e34, e]
    refine ct (by rw [hf]; rfl) ?_
    show some ([AV.one (AC.int .i64 (useE l.failed))], lB un cn d l) = some ([.one (.int .i64 15)], lB un cn d l)
    rw [show useE l.failed = 15 by rw [hf]; rfl]
  | false =>
    obtain ⟨m, hm⟩ := l34_0 un cn d l r h hl hrl hq hf r.length 0 (by omega) rfl
    refine ⟨m + 1, ?_⟩
    rw [e34]
    exact cf (by rw [hf]; rfl) hm

theorem k34_2 (un cn : Nat) (d : Dk) (l : Lg) (h : okDk un cn d = true) (hl : okLg d l = true) (hr : okRp d [] = true) : ∃ m, runF E (callOf L33) m 34 [.one (.ptr 0 0), .one (.nils)] (lB un cn d l) =
    some ([.one (.int .i64 (repM d l []).e)], lB un cn (repM d l []).d (repM d l []).l) := by
  obtain ⟨hrl, hq⟩ := okRp_of hr
  cases hf : l.failed with
  | true =>
    refine ⟨1, ?_⟩
    have e : repM d l [] = ⟨d, l, 15⟩ := by unfold repM; rw [if_pos hf]
    rw [e34_c2, e]
    refine ct (by rw [hf]; rfl) ?_
    show some ([AV.one (AC.int .i64 (useE l.failed))], lB un cn d l) = some ([.one (.int .i64 15)], lB un cn d l)
    rw [show useE l.failed = 15 by rw [hf]; rfl]
  | false =>
    obtain ⟨m, hm⟩ := l34_0 un cn d l [] h hl hrl hq hf 0 0 rfl rfl
    refine ⟨m + 1, ?_⟩
    rw [e34_c2]
    exact cf (by rw [hf]; rfl) hm

theorem k33_2 (un cn : Nat) (d : Dk) (l : Lg) (h : okDk un cn d = true) (hl : okLg d l = true) (hr : okAp d [] = true) : runF E (callOf L62) 1 33 [.one (.ptr 0 0), .one (.nils)] (lB un cn d l) =
    some ([.one (.int .i64 (appM d l []).e)], lB un cn (appM d l []).d (appM d l []).l) := by
  rw [e33_c2]
  dsimp only
  cases hf : l.failed with
  | true =>
    have e : appM d l [] = ⟨d, l, 15⟩ := by unfold appM; rw [if_pos hf]
    rw [e]
    refine ct rfl ?_
    show some ([AV.one (AC.int .i64 (useE true))], lB un cn d ⟨l.act, l.gen, l.recs, l.fin, true⟩) = some ([.one (.int .i64 15)], lB un cn d l)
    rw [← hf, show useE l.failed = 15 by rw [hf]; rfl]
  | false =>
    have e : appM d l [] = ⟨d, l, 2⟩ := by unfold appM; rw [if_neg (by simp [hf])]; rfl
    rw [e]
    refine cf rfl (ct rfl ?_)
    show some ([AV.one (AC.int .i64 2)], lB un cn d ⟨l.act, l.gen, l.recs, l.fin, false⟩) = some ([.one (.int .i64 2)], lB un cn d l)
    rw [← hf]

theorem k15 (x : List (List Cell)) (n : Int) (h0 : 0 ≤ n) (hn : n ≤ 1000) : runF E (callOf L34) 1 15 [.one (.sl false 5 x), .one (.int .i64 n)] [] = some ([.one (.sl true 5 (x.take n.toNat))], []) := by
  rw [e15, takeN_eq, List.nil_append]
  have e : (x.take (if n < (x.length : Int) then n else (x.length : Int)).toNat) = x.take n.toNat := by
    split
    · rfl
    · rw [List.take_of_length_le (by omega), List.take_of_length_le (by omega)]
  rw [e]
  exact ct (inB_le (by split <;> omega) (by split <;> omega)) (ct (fits_mk (by simp; omega)) rfl)

theorem l27 (r t : List (List Cell)) (hl : r.length = t.length) (hn : r.length ≤ 9223372036854775807) : ∀ (k i : Nat), i + k = r.length → ∃ m, goF E (callOf L15) F27 0 m P27_0 (M27_0 r t i) = some ([.one (.bool (sameF (r.drop i) (t.drop i)))], []) := by
  intro k
  induction k with
  | zero =>
    intro i hi
    refine ⟨1, ?_⟩
    rw [e27_0, List.drop_eq_nil_of_le (by omega)]
    exact cf (decide_eq_false (by omega)) rfl
  | succ k ih =>
    intro i hi
    obtain ⟨m, hm⟩ := ih (i + 1) (by omega)
    refine ⟨m + 1, ?_⟩
    have hd : t.drop i = Abs.rowAt t i :: t.drop (i + 1) := drop_cons t i (by omega)
    have hrow : Abs.rowAt (t.drop i) 0 = Abs.rowAt t i := by rw [hd]; rfl
    rw [e27_0, drop_cons r i (by omega), Int.toNat_natCast, sameF, hrow, List.drop_drop, wrap64 (n := (i : Int) + 1) (by omega) (by omega)]
    refine ct (decide_eq_true (by omega)) (ct (inB_nat' (by omega)) (ct (inB_nat' (by omega)) ?_))
    cases hb : toBytes (nl (Abs.rowAt r i) 0) == toBytes (nl (Abs.rowAt t i) 0) with
    | true => exact cf rfl (by rw [Bool.true_and]; exact_mod_cast hm)
    | false => exact ct rfl rfl

theorem k27 (r t : List (List Cell)) (hn : r.length ≤ 9223372036854775807) : ∃ m, runF E (callOf L15) m 27 [.one (.sl false 22 r), .one (.sl false 22 t)] [] = some ([.one (.bool (sameR r t))], []) := by
  unfold sameR
  by_cases hl : r.length = t.length
  · obtain ⟨m, hm⟩ := l27 r t hl hn r.length 0 (by omega)
    refine ⟨m + 1, ?_⟩
    rw [e27, decide_eq_true hl, Bool.true_and]
    exact cf (by simp [hl]) hm
  · refine ⟨1, ?_⟩
    rw [e27, decide_eq_false hl, Bool.false_and]
    exact ct (by simp; omega) rfl

theorem l18 (r : List (List Cell)) (k : Int) (hn : r.length ≤ 9223372036854775807) (hk : k ≤ 1000) : ∀ (j i : Nat) (acc : List (List Cell)), i + j = r.length → acc.length = i → ∃ m, goF E (callOf L27) F18 0 m P18_0 (M18_0 r k acc i) = some ([.one (.sl true 22 (acc ++ mkF j i k (r.drop i)))], []) := by
  intro j
  induction j with
  | zero =>
    intro i acc hi ha
    refine ⟨1, ?_⟩
    rw [e18_0]
    refine cf (decide_eq_false (by omega)) ?_
    simp [mkF]
  | succ j ih =>
    intro i acc hi ha
    by_cases h1 : (i : Int) < k
    · obtain ⟨m, hm⟩ := ih (i + 1) (acc ++ [wRow ((nl (Abs.rowAt r i) 0).take 40 ++ [[.int .u8 (IntKind.wrap .u8 i)]])]) (by omega) (by simp; omega)
      refine ⟨m + 1, ?_⟩
      rw [e18_0, drop_cons r i (by omega), mkF, if_pos h1, Int.toNat_natCast, wrap64 (n := (i : Int) + 1) (by omega) (by omega)]
      refine ct (decide_eq_true (by omega)) (ct (decide_eq_true h1) (ct (inB_nat' (by omega)) (ct (and_mk (pd_t (by omega)) (pd_t (by omega))) (ct (fits_mk (by simp; omega)) (ct (fits_mk (by simp; omega)) ?_)))))
      rw [List.append_assoc] at hm
      exact_mod_cast hm
    · refine ⟨1, ?_⟩
      rw [e18_0, drop_cons r i (by omega), mkF, if_neg h1]
      refine ct (decide_eq_true (by omega)) (cf (decide_eq_false h1) ?_)
      simp

theorem k18 (r : List (List Cell)) (k : Int) (hn : r.length ≤ 9223372036854775807) (hk : k ≤ 1000) : ∃ m, runF E (callOf L27) m 18 [.one (.sl false 22 r), .one (.int .i64 k)] [] = some ([.one (.sl true 22 (mkRs r k))], []) := by
  obtain ⟨m, hm⟩ := l18 r k hn hk r.length 0 [] (by omega) rfl
  exact ⟨m + 1, by rw [e18]; simpa [mkRs] using hm⟩

end Go.Proofs.Ytpafnokcmhlbgaa
