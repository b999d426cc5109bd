/-
  The tables of this seat: types, functions with their notes, contracts. Printed by a program of our own.
-/
import Derived.Test.YtpafnokcmhlbgaaA29
import Derived.Test.YtpafnokcmhlbgaaDefs
import Derived.Test.YtpafnokcmhlbgaaProg
namespace Go.Proofs.Ytpafnokcmhlbgaa
open Go.Abs

def tyTab : List (Nat × Ty) := [
  (3, ⟨.int .i64, 1, 8, [.int .i64], false⟩),
  (4, ⟨.bool, 1, 1, [.bool], false⟩),
  (5, ⟨.int .u8, 1, 1, [.int .u8], false⟩),
  (9, ⟨.str, 1, 16, [.str], false⟩),
  (22, ⟨.slice 5, 1, 24, [.slice 5], false⟩),
  (23, ⟨.slice 22, 1, 24, [.slice 22], false⟩),
  (25, ⟨.ptr 79, 1, 8, [.ptr], false⟩),
  (33, ⟨.int .u64, 1, 8, [.int .u64], false⟩),
  (40, ⟨.int .i64, 1, 8, [.int .i64], false⟩),
  (42, ⟨.ptr 87, 1, 8, [.ptr], false⟩),
  (65, ⟨.slice 67, 1, 24, [.slice 67], false⟩),
  (67, ⟨.struct [(0, 3), (1, 3), (2, 3), (3, 23)], 4, 48, [.int .i64, .int .i64, .int .i64, .slice 22], false⟩),
  (74, ⟨.struct [(0, 3), (1, 3)], 2, 16, [.int .i64, .int .i64], false⟩),
  (77, ⟨.slice 85, 1, 24, [.slice 85], false⟩),
  (79, ⟨.struct [(0, 22), (1, 22), (2, 77), (3, 4), (4, 3), (5, 4)], 6, 96, [.slice 5, .slice 5, .slice 85, .bool, .int .i64, .bool], false⟩),
  (81, ⟨.int .u32, 1, 4, [.int .u32], false⟩),
  (85, ⟨.struct [(0, 3), (1, 22)], 2, 32, [.int .i64, .slice 5], false⟩),
  (87, ⟨.struct [(0, 25), (1, 3), (2, 33), (3, 23), (4, 3), (5, 4)], 6, 64, [.ptr, .int .i64, .int .u64, .slice 22, .int .i64, .bool], false⟩),
  (88, ⟨.array 2 33, 2, 16, [.int .u64, .int .u64], false⟩),
  (89, ⟨.array 2 22, 2, 48, [.slice 5, .slice 5], false⟩),
  (112, ⟨.array 30016 5, 30016, 30016, (List.replicate 30016 (.int .u8)), false⟩)]

noncomputable def codeOf (f : Func) : Code := match f.body with | some c => c | none => .skip
noncomputable def F11 : AFunc := ⟨codeOf Try.f11, .leaf, [3, 3], [.tmp 4], [], [], true⟩
noncomputable def F72 : AFunc := ⟨codeOf Try.f72, (.seq none (.reg [6] []) (.seq none (.seq none .leaf (.sub (.sub (.seq none .leaf (.seq none (.sub (.reg [0, 14] [])) .leaf))))) (.seq none (.reg [6, 22] []) .leaf))), [22, 33, 3], [.tmp 6], [], [], true⟩
noncomputable def F73 : AFunc := ⟨codeOf Try.f73, (.seq none .leaf (.seq none .leaf (.seq none (.seq none .leaf (.sub (.loop [(3, false), (7, false), (8, false), (9, false)] (.seq none .leaf (.seq none .leaf (.seq none (.sub (.seq none .leaf (.seq none .leaf (.seq none .leaf (.sub (.loop [(3, false), (7, false), (8, false), (9, false), (17, false)] .leaf)))))) .leaf)))))) .leaf))), [22], [.tmp 2], [], [], true⟩
noncomputable def F71 : AFunc := ⟨codeOf Try.f71, (.seq none .leaf (.seq none .leaf (.seq none (.seq none .leaf (.sub (.loop [(3, false), (6, false), (7, false), (8, false)] .leaf))) .leaf))), [22], [.tmp 2], [], [], true⟩
noncomputable def F51 : AFunc := ⟨codeOf Try.f51, (.seq none (.reg [2] []) (.seq none (.reg [3, 7000000] []) (.seq none (.reg [3] [(2, ⟨[.one (.int .u32)], [[.arrp 5]], []⟩)]) (.seq none (.reg [2, 13, 2000002] []) .leaf)))), [33], [.tmp 2], [], [], true⟩
noncomputable def F46 : AFunc := ⟨codeOf Try.f46, .leaf, [22], [.tmp 2], [], [], true⟩
noncomputable def F77 : AFunc := ⟨codeOf Try.f77, (.seq none .leaf (.seq none (.reg [1000007] []) (.seq none (.reg [] [(2, ⟨[.one (.win 5 0)], [[.arrp 5]], []⟩)]) (.seq none (.reg [] [(3, ⟨[.one (.win 5 0)], [[.arrp 5]], []⟩)]) (.seq none (.reg [] [(4, ⟨[.one (.win 5 0)], [[.arrp 5]], []⟩)]) (.seq none .leaf (.seq none (.reg [] [(2, ⟨[.one (.int .u32)], [[.arrp 5]], []⟩)]) .leaf))))))), [33, 3, 22], [.tmp 6], [], [], true⟩
noncomputable def F63 : AFunc := ⟨codeOf Try.f63, (.seq none (.reg [8] []) (.seq none (.reg [0, 9, 1000009] []) (.seq none (.reg [0] []) (.seq none (.reg [0, 17] []) (.seq none (.reg [0] []) (.seq none (.reg [8, 27] []) .leaf)))))), [22, 33, 3, 22], [.tmp 8], [1000000], [], true⟩
noncomputable def F74 : AFunc := ⟨codeOf Try.f74, (.seq none (.reg [6] []) (.seq none .leaf (.seq none (.seq none .leaf (.cond (.seq none (.reg [6] []) .leaf) .leaf)) (.seq none .leaf (.seq none (.seq none .leaf (.cond (.seq none (.reg [6] []) .leaf) .leaf)) (.seq none .leaf (.seq none (.reg [11] []) (.seq none .leaf (.seq none (.reg [6, 69] []) .leaf))))))))), [22, 33, 3], [.tmp 6, .tmp 7], [], [], true⟩
noncomputable def F52 : AFunc := ⟨codeOf Try.f52, (.seq none (.reg [4] []) (.seq none (.reg [6] []) (.seq none .leaf (.sub (.loop [(0, false), (1, false), (6, true), (7, false)] (.sub (.seq none .leaf (.seq none (.seq none .leaf (.cond (.seq none (.reg [4, 19] []) .leaf) .leaf)) (.seq none (.reg [6, 21] []) .leaf))))))))), [22, 33], [.tmp 4, .tmp 5], [], [0], true⟩
noncomputable def F49 : AFunc := ⟨codeOf Try.f49, (.seq none .leaf (.seq none (.seq none .leaf (.sub (.loop [(5, false), (6, false), (7, false)] .leaf))) .leaf)), [22], [.tmp 2], [], [], true⟩
noncomputable def F12 : AFunc := ⟨codeOf Try.f12, (.seq none .leaf (.seq none .leaf (.seq none (.reg [13, 1000009, 1000011, 9000000] []) .leaf))), [3], [.tmp 2], [], [], true⟩
noncomputable def F32 : AFunc := ⟨codeOf Try.f32, .leaf, [25], [.tmp 2], [], [], true⟩
noncomputable def F38 : AFunc := ⟨codeOf Try.f38, .leaf, [25], [.tmp 2], [], [], true⟩
noncomputable def F44 : AFunc := ⟨codeOf Try.f44, .leaf, [25, 3, 3], [.tmp 6], [], [], true⟩
noncomputable def F35 : AFunc := ⟨codeOf Try.f35, (.seq none (.reg [6] []) (.seq none (.seq none .leaf (.seq none .leaf (.cond (.seq none (.reg [6] []) .leaf) .leaf))) (.seq none (.reg [6] []) .leaf))), [25, 3, 3], [.tmp 6, .tmp 7], [], [], true⟩
noncomputable def F36 : AFunc := ⟨codeOf Try.f36, (.seq none .leaf (.seq none .leaf (.seq none (.sub (.loop [(0, false), (1, false), (2, false)] (.seq none .leaf (.sub (.seq none .leaf (.seq none .leaf (.seq none .leaf (.seq none .leaf (.seq none (.reg [69, 77] []) .leaf))))))))) .leaf))), [25, 3, 22], [.tmp 6], [], [], true⟩
noncomputable def F20 : AFunc := ⟨codeOf Try.f20, (.seq none .leaf (.seq none .leaf (.seq none (.seq none .leaf (.sub (.loop [(0, false), (14, false), (15, false), (16, false)] (.seq none .leaf (.seq none .leaf (.seq none (.sub (.seq none (.reg [19] []) .leaf)) .leaf)))))) .leaf))), [25], [.tmp 2], [], [], true⟩
noncomputable def F39 : AFunc := ⟨codeOf Try.f39, .leaf, [25, 3], [], [], [], true⟩
noncomputable def F40 : AFunc := ⟨codeOf Try.f40, (.seq none .leaf (.seq none .leaf (.seq none .leaf (.seq none (.seq none .leaf (.sub (.loop [(0, false), (3, false), (4, false), (24, false), (25, false), (26, false)] (.seq none .leaf (.seq none .leaf (.seq none (.sub (.seq none (.reg [29] []) .leaf)) .leaf)))))) (.seq none (.seq none .leaf (.cond (.seq none (.reg [54] []) .leaf) .leaf)) .leaf))))), [25, 74], [], [], [], true⟩
noncomputable def F24 : AFunc := ⟨codeOf Try.f24, .leaf, [25], [.tmp 2], [], [], true⟩
noncomputable def F70 : AFunc := ⟨codeOf Try.f70, .leaf, [25], [.tmp 2], [], [], true⟩
noncomputable def F45 : AFunc := ⟨codeOf Try.f45, .leaf, [42, 3], [.tmp 4], [], [], true⟩
noncomputable def F47 : AFunc := ⟨codeOf Try.f47, .leaf, [42, 3], [.tmp 4], [], [], true⟩
noncomputable def F48 : AFunc := ⟨codeOf Try.f48, .leaf, [42], [.tmp 2], [], [], true⟩
noncomputable def F50 : AFunc := ⟨codeOf Try.f50, .leaf, [42, 3, 22], [.tmp 6], [], [], true⟩
noncomputable def F22 : AFunc := ⟨codeOf Try.f22, (.seq none .leaf (.seq none .leaf (.seq none (.reg [25] []) (.seq none .leaf (.seq none .leaf (.seq none (.seq none .leaf (.sub (.sub (.seq none .leaf (.seq none .leaf (.seq none (.sub (.seq none .leaf (.seq none .leaf (.seq none .leaf (.seq none .leaf (.seq none (.reg [44, 53] []) .leaf)))))) .leaf)))))) (.seq none .leaf (.seq none .leaf (.seq none .leaf (.seq none .leaf (.seq none (.reg [110, 119] []) (.seq none (.seq none .leaf (.cond (.seq none (.reg [5000139] []) .leaf) .leaf)) .leaf)))))))))))), [25], [.tmp 2, .tmp 3], [], [], true⟩
noncomputable def F59 : AFunc := ⟨codeOf Try.f59, (.seq none (.reg [2] []) (.seq none (.reg [3] []) (.seq none (.seq none .leaf (.sub (.loop [(3, true), (6, false), (7, false), (8, false)] (.seq none .leaf (.seq none .leaf (.seq none (.sub (.seq none .leaf (.reg [3, 12] []))) .leaf)))))) (.seq none (.reg [2, 18] []) .leaf)))), [23], [.tmp 2], [], [0], true⟩
noncomputable def F28 : AFunc := ⟨codeOf Try.f28, (.seq none (.reg [2] []) (.seq none (.seq none .leaf (.cond (.seq none (.reg [2] []) .leaf) .leaf)) (.seq none (.reg [2] []) .leaf))), [42], [.tmp 2], [], [0], true⟩
noncomputable def F29 : AFunc := ⟨codeOf Try.f29, .leaf, [42], [.tmp 2], [], [], true⟩
noncomputable def F30 : AFunc := ⟨codeOf Try.f30, (.seq none .leaf (.seq none .leaf (.seq none (.reg [5000006] []) .leaf))), [42], [.tmp 2], [], [], true⟩
noncomputable def F61 : AFunc := ⟨codeOf Try.f61, .leaf, [42], [.tmp 2], [], [], true⟩
noncomputable def F62 : AFunc := ⟨codeOf Try.f62, .leaf, [22], [.tmp 2], [], [], true⟩
noncomputable def F33 : AFunc := ⟨codeOf Try.f33, (.seq none .leaf (.seq none .leaf (.seq none .leaf (.seq none .leaf (.seq none .leaf (.seq none (.seq none (.reg [2000047, 5000041] []) .leaf) (.seq none (.reg [56, 60] []) .leaf))))))), [42, 22], [.tmp 4], [], [], true⟩
noncomputable def F34 : AFunc := ⟨codeOf Try.f34, (.seq none .leaf (.seq none .leaf (.seq none .leaf (.seq none (.seq none .leaf (.sub (.loop [(0, false), (1, false), (6, false), (22, false), (23, false), (24, false)] .leaf))) (.seq none .leaf (.seq none .leaf (.seq none (.reg [12, 1000012] []) (.seq none (.seq none .leaf (.sub (.loop [(0, false), (1, false), (6, false), (10, false), (11, false), (12, true), (60, false), (61, false), (62, false)] (.seq none .leaf (.seq none .leaf (.seq none (.sub (.seq none .leaf (.reg [12] [(5, ⟨[.one (.msl 5 1)], [[.deadp], [.arrp 5]], []⟩)]))) .leaf)))))) (.seq none (.reg [12, 73] []) (.seq none (.seq none (.reg [2000083] []) .leaf) (.seq none .leaf (.seq none (.reg [105] []) .leaf)))))))))))), [42, 23], [.tmp 4], [], [], true⟩
noncomputable def F15 : AFunc := ⟨codeOf Try.f15, (.seq none (.reg [4] []) (.seq none (.reg [4] []) .leaf)), [22, 3], [.tmp 4], [], [0], true⟩
noncomputable def F27 : AFunc := ⟨codeOf Try.f27, (.seq none .leaf (.seq none .leaf (.seq none (.seq none .leaf (.sub (.loop [(0, false), (1, false), (5, false)] .leaf))) .leaf))), [23, 23], [.tmp 4], [], [], true⟩
noncomputable def F18 : AFunc := ⟨codeOf Try.f18, (.seq none (.reg [4] []) (.seq none (.reg [5] []) (.seq none (.seq none .leaf (.sub (.loop [(0, false), (1, false), (5, true), (6, false)] (.seq none .leaf (.seq none (.sub (.reg [5, 18] [])) .leaf))))) (.seq none (.reg [4, 30] []) .leaf)))), [23, 3], [.tmp 4], [], [0], true⟩
noncomputable def F26 : AFunc := ⟨codeOf Try.f26, (.seq none .leaf (.seq none .leaf (.seq none .leaf (.seq none (.seq none (.reg [8000008] []) .leaf) .leaf)))), [], [.tmp 0], [], [], true⟩
noncomputable def F4 : AFunc := ⟨codeOf Try.f4, (.seq none .leaf (.seq none .leaf (.seq none .leaf (.seq none .leaf (.seq none .leaf (.seq none (.seq none .leaf (.sub (.loop [(1, false), (6, false), (8, false), (9, false)] .leaf))) .leaf)))))), [3, 23], [.tmp 4], [], [], true⟩
noncomputable def F5 : AFunc := ⟨codeOf Try.f5, (.seq none .leaf (.seq none .leaf (.seq none .leaf (.seq none .leaf (.seq none .leaf (.seq none (.seq none .leaf (.sub (.loop [(6, false), (8, false), (9, false), (10, false)] .leaf))) (.seq none .leaf (.seq none (.seq none .leaf (.sub (.loop [(6, false), (8, false), (9, false), (11, false), (12, false)] .leaf))) .leaf)))))))), [23, 23], [.tmp 4], [], [], true⟩
noncomputable def F10 : AFunc := ⟨codeOf Try.f10, (.seq none .leaf (.seq none .leaf (.seq none .leaf (.seq none .leaf (.seq none .leaf (.seq none (.seq none .leaf (.sub (.loop [(2, false), (7, false), (8, false), (10, false), (11, false)] .leaf))) .leaf)))))), [23, 3, 3], [.tmp 6], [], [], true⟩
noncomputable def F6 : AFunc := ⟨codeOf Try.f6, (.seq none .leaf (.seq none .leaf (.seq none .leaf (.seq none .leaf (.seq none .leaf (.seq none .leaf (.seq none .leaf (.seq none (.seq none .leaf (.sub (.loop [(2, false), (3, false), (9, false), (10, false), (12, false), (13, false), (14, false), (15, false)] .leaf))) .leaf)))))))), [23, 3, 3, 5], [.tmp 8], [], [], true⟩
noncomputable def F9 : AFunc := ⟨codeOf Try.f9, (.seq none .leaf (.seq none .leaf (.seq none (.reg [] [(1, ⟨[.one (.ptr 3 0), .one (.int .i64)], [[.msl 5 1, .msl 5 2, .sl true 85, .bool, .int .i64, .bool], [.arrp 5], [.arrp 5], [.ptr 0 0, .int .i64, .int .u64, .sl true 22, .int .i64, .bool]], [([.one (.nilp), .one (.int .i64)], [[.msl 5 1, .msl 5 2, .sl true 85, .bool, .int .i64, .bool], [.arrp 5], [.arrp 5]])]⟩)]) (.seq none .leaf (.seq none .leaf (.seq none (.seq none .leaf (.sub (.loop [(1, false), (2, false), (3, false), (4, false), (5, false), (6, false), (15, false), (16, false), (18, false), (19, false)] .leaf))) (.seq none .leaf (.seq none .leaf (.seq none .leaf (.seq none .leaf (.seq none .leaf (.seq none .leaf (.seq none .leaf (.seq none .leaf (.seq none .leaf (.seq none (.seq none .leaf (.sub (.loop [(6, false), (15, false), (20, false), (22, false), (23, false), (24, false)] (.seq none .leaf (.seq none (.sub (.seq none .leaf (.seq none (.reg [] [(1, ⟨[.one (.ptr 3 0), .one (.int .i64)], [[.msl 5 1, .msl 5 2, .sl true 85, .bool, .int .i64, .bool], [.arrp 5], [.arrp 5], [.ptr 0 0, .int .i64, .int .u64, .sl true 22, .int .i64, .bool]], [([.one (.nilp), .one (.int .i64)], [[.msl 5 1, .msl 5 2, .sl true 85, .bool, .int .i64, .bool], [.arrp 5], [.arrp 5]])]⟩)]) .leaf))) .leaf))))) (.seq none (.reg [] [(1, ⟨[.one (.ptr 3 0), .one (.int .i64)], [[.msl 5 1, .msl 5 2, .sl true 85, .bool, .int .i64, .bool], [.arrp 5], [.arrp 5], [.ptr 0 0, .int .i64, .int .u64, .sl true 22, .int .i64, .bool]], [([.one (.nilp), .one (.int .i64)], [[.msl 5 1, .msl 5 2, .sl true 85, .bool, .int .i64, .bool], [.arrp 5], [.arrp 5]])]⟩)]) (.seq none .leaf (.seq none .leaf (.seq none .leaf (.seq none (.reg [] [(1, ⟨[.one (.ptr 3 0), .one (.int .i64)], [[.msl 5 1, .msl 5 2, .sl true 85, .bool, .int .i64, .bool], [.arrp 5], [.arrp 5], [.ptr 0 0, .int .i64, .int .u64, .sl true 22, .int .i64, .bool]], [([.one (.nilp), .one (.int .i64)], [[.msl 5 1, .msl 5 2, .sl true 85, .bool, .int .i64, .bool], [.arrp 5], [.arrp 5]])]⟩)]) .leaf))))))))))))))))))))), [23, 23, 4, 3, 3, 3, 65], [.tmp 14], [], [], true⟩
noncomputable def fnTab : List (Nat × (Sig × FnDef)) := [
  (9, (⟨[.one (.bool)], [], []⟩, .code F9)),
  (6, (⟨[.one (.bool)], [], []⟩, .code F6)),
  (10, (⟨[.one (.bool)], [], []⟩, .code F10)),
  (5, (⟨[.one (.bool)], [], []⟩, .code F5)),
  (4, (⟨[.one (.bool)], [], []⟩, .code F4)),
  (26, (⟨[.one (.bool)], [], []⟩, .code F26)),
  (18, (⟨[.one (.sl true 22)], [], []⟩, .code F18)),
  (27, (⟨[.one (.bool)], [], []⟩, .code F27)),
  (15, (⟨[.one (.sl true 5)], [], []⟩, .code F15)),
  (34, (⟨[.one (.int .i64)], [[.ptr 1 0, .int .i64, .int .u64, .sl true 22, .int .i64, .bool], [.msl 5 2, .msl 5 3, .sl true 85, .bool, .int .i64, .bool], [.arrp 5], [.arrp 5]], []⟩, .code F34)),
  (33, (⟨[.one (.int .i64)], [[.ptr 1 0, .int .i64, .int .u64, .sl true 22, .int .i64, .bool], [.msl 5 2, .msl 5 3, .sl true 85, .bool, .int .i64, .bool], [.arrp 5], [.arrp 5]], []⟩, .code F33)),
  (62, (⟨[.one (.int .i64)], [], []⟩, .code F62)),
  (61, (⟨[.one (.int .i64)], [[.ptr 1 0, .int .i64, .int .u64, .sl true 22, .int .i64, .bool], [.msl 5 2, .msl 5 3, .sl true 85, .bool, .int .i64, .bool], [.arrp 5], [.arrp 5]], []⟩, .code F61)),
  (30, (⟨[.one (.int .i64)], [[.ptr 1 0, .int .i64, .int .u64, .sl true 22, .int .i64, .bool], [.msl 5 2, .msl 5 3, .sl true 85, .bool, .int .i64, .bool], [.arrp 5], [.arrp 5]], []⟩, .code F30)),
  (29, (⟨[.one (.int .u64)], [[.ptr 1 0, .int .i64, .int .u64, .sl true 22, .int .i64, .bool], [.msl 5 2, .msl 5 3, .sl true 85, .bool, .int .i64, .bool], [.arrp 5], [.arrp 5]], []⟩, .code F29)),
  (28, (⟨[.one (.sl true 22)], [[.ptr 1 0, .int .i64, .int .u64, .sl true 22, .int .i64, .bool], [.msl 5 2, .msl 5 3, .sl true 85, .bool, .int .i64, .bool], [.arrp 5], [.arrp 5]], []⟩, .code F28)),
  (59, (⟨[.one (.sl true 22)], [], []⟩, .code F59)),
  (22, (⟨[.one (.ptr 3 0), .one (.int .i64)], [[.msl 5 1, .msl 5 2, .sl true 85, .bool, .int .i64, .bool], [.arrp 5], [.arrp 5], [.ptr 0 0, .int .i64, .int .u64, .sl true 22, .int .i64, .bool]], []⟩, .code F22)),
  (50, (⟨[.one (.int .i64)], [[.ptr 1 0, .int .i64, .int .u64, .sl true 22, .int .i64, .bool], [.msl 5 2, .msl 5 3, .sl true 85, .bool, .int .i64, .bool], [.arrp 5], [.arrp 5]], []⟩, .code F50)),
  (48, (⟨[.one (.int .i64)], [[.ptr 1 0, .int .i64, .int .u64, .sl true 22, .int .i64, .bool], [.msl 5 2, .msl 5 3, .sl true 85, .bool, .int .i64, .bool], [.arrp 5], [.arrp 5]], []⟩, .code F48)),
  (47, (⟨[.one (.int .i64)], [[.ptr 1 0, .int .i64, .int .u64, .sl true 22, .int .i64, .bool], [.msl 5 2, .msl 5 3, .sl true 85, .bool, .int .i64, .bool], [.arrp 5], [.arrp 5]], []⟩, .code F47)),
  (45, (⟨[.one (.int .i64)], [[.ptr 1 0, .int .i64, .int .u64, .sl true 22, .int .i64, .bool], [.msl 5 2, .msl 5 3, .sl true 85, .bool, .int .i64, .bool], [.arrp 5], [.arrp 5]], []⟩, .code F45)),
  (70, (⟨[.one (.int .i64)], [[.msl 5 1, .msl 5 2, .sl true 85, .bool, .int .i64, .bool], [.arrp 5], [.arrp 5]], []⟩, .code F70)),
  (24, (⟨[.one (.str)], [[.msl 5 1, .msl 5 2, .sl true 85, .bool, .int .i64, .bool], [.arrp 5], [.arrp 5]], []⟩, .code F24)),
  (40, (⟨[], [[.msl 5 1, .msl 5 2, .sl true 85, .bool, .int .i64, .bool], [.arrp 5], [.arrp 5]], []⟩, .code F40)),
  (39, (⟨[], [[.msl 5 1, .msl 5 2, .sl true 85, .bool, .int .i64, .bool], [.arrp 5], [.arrp 5]], []⟩, .code F39)),
  (20, (⟨[.one (.int .i64)], [[.msl 5 1, .msl 5 2, .sl true 85, .bool, .int .i64, .bool], [.arrp 5], [.arrp 5]], []⟩, .code F20)),
  (36, (⟨[.one (.int .i64)], [[.msl 5 1, .msl 5 2, .sl true 85, .bool, .int .i64, .bool], [.arrp 5], [.arrp 5]], []⟩, .code F36)),
  (35, (⟨[.one (.sl false 5), .one (.int .i64)], [[.msl 5 1, .msl 5 2, .sl true 85, .bool, .int .i64, .bool], [.arrp 5], [.arrp 5]], []⟩, .code F35)),
  (44, (⟨[.one (.int .i64)], [[.msl 5 1, .msl 5 2, .sl true 85, .bool, .int .i64, .bool], [.arrp 5], [.arrp 5]], []⟩, .code F44)),
  (38, (⟨[.one (.bool)], [[.msl 5 1, .msl 5 2, .sl true 85, .bool, .int .i64, .bool], [.arrp 5], [.arrp 5]], []⟩, .code F38)),
  (32, (⟨[.one (.int .i64)], [[.msl 5 1, .msl 5 2, .sl true 85, .bool, .int .i64, .bool], [.arrp 5], [.arrp 5]], []⟩, .code F32)),
  (12, (⟨[.one (.ptr 0 0)], [[.msl 5 1, .msl 5 2, .sl true 85, .bool, .int .i64, .bool], [.arrp 5], [.arrp 5]], []⟩, .code F12)),
  (49, (⟨[.one (.bool)], [], []⟩, .code F49)),
  (52, (⟨[.one (.sl true 22), .one (.int .i64)], [], []⟩, .code F52)),
  (74, (⟨[.one (.sl false 5), .one (.bool)], [], []⟩, .code F74)),
  (63, (⟨[.one (.msl 5 0)], [[.arrp 5]], []⟩, .code F63)),
  (77, (⟨[.one (.int .u32)], [], []⟩, .code F77)),
  (46, (⟨[.one (.int .u64)], [], []⟩, .code F46)),
  (51, (⟨[.one (.sl false 5)], [], []⟩, .code F51)),
  (71, (⟨[.one (.int .u64)], [], []⟩, .code F71)),
  (73, (⟨[.one (.int .u32)], [], []⟩, .code F73)),
  (72, (⟨[.one (.msl 5 1)], [[.deadp], [.arrp 5]], []⟩, .code F72)),
  (11, (⟨[.one (.int .i64)], [], []⟩, .code F11))]
noncomputable def E : Env := ⟨lookT tyTab, lookT fnTab⟩
noncomputable def s11 : Go.Abs.Spec := fun args blk => match args, blk with
  | [.one (.int .i64 n), .one (.int .i64 k)], [] => ((pd (k < (4611686018427387904 : Int))), ([.one (.int .i64 (gIndex n k))], []))
  | _, _ => (false, ([], []))
noncomputable def s72 : Go.Abs.Spec := fun args blk => match args, blk with
  | [.one (.msl 5 0 un), .one (.int .u64 v), .one (.int .i64 k)], [.arr 5 x] => ((okV v && (okSz k && okMx un x)), ([.one (.msl 5 1 (x.length + Int.toNat k))], [.dead, .arr 5 (x ++ bigF (Int.toNat k) v)]))
  | [.one (.win 5 0 lo un (some c)), .one (.int .u64 v), .one (.int .i64 k)], [.arr 5 x] => ((okV v && (okSz k && okWa lo un c x (Int.toNat k))), ([.one (.win 5 0 lo (un + Int.toNat k) (some c))], [.arr 5 (overL x (lo + un) (bigF (Int.toNat k) v))]))
  | _, _ => (false, ([], []))
noncomputable def s73 : Go.Abs.Spec := fun args blk => match args, blk with
  | [.one (.sl false 5 x)], [] => ((okBl x), ([.one (.int .u32 (crcS x))], []))
  | [.one (.msl 5 0 un)], [.arr 5 x] => ((okBl x && Nat.beq un x.length), ([.one (.int .u32 (crcS x))], [.arr 5 x]))
  | [.one (.win 5 0 lo un (some c))], [.arr 5 x] => ((okWb lo un x), ([.one (.int .u32 (crcS (subL x lo (lo + un))))], [.arr 5 x]))
  | _, _ => (false, ([], []))
noncomputable def s71 : Go.Abs.Spec := fun args blk => match args, blk with
  | [.one (.sl false 5 x)], [] => ((okB x && pd (x.length ≤ 8)), ([.one (.int .u64 (numF 0 x))], []))
  | _, _ => (false, ([], []))
noncomputable def s51 : Go.Abs.Spec := fun args blk => match args, blk with
  | [.one (.int .u64 g)], [] => ((okV g), ([.one (.sl false 5 (wHdr g))], []))
  | _, _ => (false, ([], []))
noncomputable def s46 : Go.Abs.Spec := fun args blk => match args, blk with
  | [.one (.sl false 5 x)], [] => ((okB x && pd (x.length = 32)), ([.one (.int .u64 (wGen x))], []))
  | _, _ => (false, ([], []))
noncomputable def s77 : Go.Abs.Spec := fun args blk => match args, blk with
  | [.one (.int .u64 g), .one (.int .i64 o), .one (.sl false 5 x)], [] => ((okV g && okRx o x), ([.one (.int .u32 (wSum g o x))], []))
  | _, _ => (false, ([], []))
noncomputable def s63 : Go.Abs.Spec := fun args blk => match args, blk with
  | [.one (.nils), .one (.int .u64 g), .one (.int .i64 o), .one (.sl false 5 y)], [] => ((okV g && okRx o y), ([.one (.msl 5 0 (wEnc g o y).length)], [.arr 5 (wEnc g o y)]))
  | [.one (.msl 5 0 un), .one (.int .u64 g), .one (.int .i64 o), .one (.sl false 5 y)], [.arr 5 x] => ((okV g && (okRx o y && (okMx un x && pd (x.length ≤ 900000)))), ([.one (.msl 5 1 (x ++ wEnc g o y).length)], [.dead, .arr 5 (x ++ wEnc g o y)]))
  | _, _ => (false, ([], []))
noncomputable def s74 : Go.Abs.Spec := fun args blk => match args, blk with
  | [.one (.sl false 5 x), .one (.int .u64 g), .one (.int .i64 o)], [] => ((okV g && (okBl x && (pd ((0 : Int) ≤ o) && pd (o ≤ (x.length : Int))))), ([.one (.sl false 5 (recB g o (x.drop (Int.toNat o))).1), .one (.bool (recB g o (x.drop (Int.toNat o))).2)], []))
  | _, _ => (false, ([], []))
noncomputable def s52 : Go.Abs.Spec := fun args blk => match args, blk with
  | [.one (.sl false 5 x), .one (.int .u64 g)], [] => ((okV g && okBl x), ([.one (.sl true 22 (wScan g x).1), .one (.int .i64 (wScan g x).2)], []))
  | _, _ => (false, ([], []))
noncomputable def s49 : Go.Abs.Spec := fun args blk => match args, blk with
  | [.one (.sl false 5 x)], [] => ((okBl x), ([.one (.bool (zeroB x))], []))
  | _, _ => (false, ([], []))
noncomputable def s12 : Go.Abs.Spec := fun args blk => match args, blk with
  | [.one (.int .i64 n)], [] => (true, ([.one (.ptr 0 0)], [.var [.msl 5 1 (secN n), .msl 5 2 (secN n), .sl true 85 (Dk.q (newDk n)), .bool (Dk.arm (newDk n)), .int .i64 (Dk.left (newDk n)), .bool (Dk.down (newDk n))], .arr 5 (Dk.dur (newDk n)), .arr 5 (Dk.cur (newDk n))]))
  | _, _ => (false, ([], []))
noncomputable def s32 : Go.Abs.Spec := fun args blk => match args, blk with
  | [.one (.ptr 0 0)], [.var [.msl 5 1 un, .msl 5 2 cn, .sl true 85 qu, .bool am, .int .i64 lf, .bool dn], .arr 5 du, .arr 5 cu] => ((okDk un cn (Dk.mk du cu qu am lf dn)), ([.one (.int .i64 (secs du))], [.var [.msl 5 1 un, .msl 5 2 cn, .sl true 85 qu, .bool am, .int .i64 lf, .bool dn], .arr 5 du, .arr 5 cu]))
  | [.one (.nilp)], [] => (true, ([.one (.int .i64 0)], []))
  | _, _ => (false, ([], []))
noncomputable def s38 : Go.Abs.Spec := fun args blk => match args, blk with
  | [.one (.ptr 0 0)], [.var [.msl 5 1 un, .msl 5 2 cn, .sl true 85 qu, .bool am, .int .i64 lf, .bool dn], .arr 5 du, .arr 5 cu] => (true, ([.one (.bool dn)], [.var [.msl 5 1 un, .msl 5 2 cn, .sl true 85 qu, .bool am, .int .i64 lf, .bool dn], .arr 5 du, .arr 5 cu]))
  | _, _ => (false, ([], []))
noncomputable def s44 : Go.Abs.Spec := fun args blk => match args, blk with
  | [.one (.ptr 0 0), .one (.int .i64 o), .one (.int .i64 k)], [.var [.msl 5 1 un, .msl 5 2 cn, .sl true 85 qu, .bool am, .int .i64 lf, .bool dn], .arr 5 du, .arr 5 cu] => ((okDk un cn (Dk.mk du cu qu am lf dn)), ([.one (.int .i64 (Dk.chk (Dk.mk du cu qu am lf dn) o k))], [.var [.msl 5 1 un, .msl 5 2 cn, .sl true 85 qu, .bool am, .int .i64 lf, .bool dn], .arr 5 du, .arr 5 cu]))
  | _, _ => (false, ([], []))
noncomputable def s35 : Go.Abs.Spec := fun args blk => match args, blk with
  | [.one (.ptr 0 0), .one (.int .i64 o), .one (.int .i64 k)], [.var [.msl 5 1 un, .msl 5 2 cn, .sl true 85 qu, .bool am, .int .i64 lf, .bool dn], .arr 5 du, .arr 5 cu] => ((okDk un cn (Dk.mk du cu qu am lf dn)), ([.one (.sl false 5 (Dk.rd (Dk.mk du cu qu am lf dn) o k)), .one (.int .i64 (Dk.chk (Dk.mk du cu qu am lf dn) o k))], [.var [.msl 5 1 un, .msl 5 2 cn, .sl true 85 qu, .bool am, .int .i64 lf, .bool dn], .arr 5 du, .arr 5 cu]))
  | _, _ => (false, ([], []))
noncomputable def s36 : Go.Abs.Spec := fun args blk => match args, blk with
  | [.one (.ptr 0 0), .one (.int .i64 o), .one (.sl false 5 x)], [.var [.msl 5 1 un, .msl 5 2 cn, .sl true 85 qu, .bool am, .int .i64 lf, .bool dn], .arr 5 du, .arr 5 cu] => ((okDk un cn (Dk.mk du cu qu am lf dn) && okWx (Dk.mk du cu qu am lf dn) x), ([.one (.int .i64 (Dr.e (Dk.write (Dk.mk du cu qu am lf dn) o x)))], [.var [.msl 5 1 un, .msl 5 2 cn, .sl true 85 (Dk.q (Dr.d (Dk.write (Dk.mk du cu qu am lf dn) o x))), .bool (Dk.arm (Dr.d (Dk.write (Dk.mk du cu qu am lf dn) o x))), .int .i64 (Dk.left (Dr.d (Dk.write (Dk.mk du cu qu am lf dn) o x))), .bool (Dk.down (Dr.d (Dk.write (Dk.mk du cu qu am lf dn) o x)))], .arr 5 (Dk.dur (Dr.d (Dk.write (Dk.mk du cu qu am lf dn) o x))), .arr 5 (Dk.cur (Dr.d (Dk.write (Dk.mk du cu qu am lf dn) o x)))]))
  | _, _ => (false, ([], []))
noncomputable def s20 : Go.Abs.Spec := fun args blk => match args, blk with
  | [.one (.ptr 0 0)], [.var [.msl 5 1 un, .msl 5 2 cn, .sl true 85 qu, .bool am, .int .i64 lf, .bool dn], .arr 5 du, .arr 5 cu] => ((okDk un cn (Dk.mk du cu qu am lf dn)), ([.one (.int .i64 (Dr.e (Dk.sync (Dk.mk du cu qu am lf dn))))], [.var [.msl 5 1 un, .msl 5 2 cn, .sl true 85 (Dk.q (Dr.d (Dk.sync (Dk.mk du cu qu am lf dn)))), .bool (Dk.arm (Dr.d (Dk.sync (Dk.mk du cu qu am lf dn)))), .int .i64 (Dk.left (Dr.d (Dk.sync (Dk.mk du cu qu am lf dn)))), .bool (Dk.down (Dr.d (Dk.sync (Dk.mk du cu qu am lf dn))))], .arr 5 (Dk.dur (Dr.d (Dk.sync (Dk.mk du cu qu am lf dn)))), .arr 5 (Dk.cur (Dr.d (Dk.sync (Dk.mk du cu qu am lf dn))))]))
  | _, _ => (false, ([], []))
noncomputable def s39 : Go.Abs.Spec := fun args blk => match args, blk with
  | [.one (.ptr 0 0), .one (.int .i64 k)], [.var [.msl 5 1 un, .msl 5 2 cn, .sl true 85 qu, .bool am, .int .i64 lf, .bool dn], .arr 5 du, .arr 5 cu] => (true, ([], [.var [.msl 5 1 un, .msl 5 2 cn, .sl true 85 (Dk.q (Dk.fail (Dk.mk du cu qu am lf dn) k)), .bool (Dk.arm (Dk.fail (Dk.mk du cu qu am lf dn) k)), .int .i64 (Dk.left (Dk.fail (Dk.mk du cu qu am lf dn) k)), .bool (Dk.down (Dk.fail (Dk.mk du cu qu am lf dn) k))], .arr 5 (Dk.dur (Dk.fail (Dk.mk du cu qu am lf dn) k)), .arr 5 (Dk.cur (Dk.fail (Dk.mk du cu qu am lf dn) k))]))
  | _, _ => (false, ([], []))
noncomputable def s40 : Go.Abs.Spec := fun args blk => match args, blk with
  | [.one (.ptr 0 0), .agg [.int .i64 k, .int .i64 t]], [.var [.msl 5 1 un, .msl 5 2 cn, .sl true 85 qu, .bool am, .int .i64 lf, .bool dn], .arr 5 du, .arr 5 cu] => ((okDk un cn (Dk.mk du cu qu am lf dn)), ([], [.var [.msl 5 1 un, .msl 5 2 cn, .sl true 85 (Dk.q (Dk.crash (Dk.mk du cu qu am lf dn) k t)), .bool (Dk.arm (Dk.crash (Dk.mk du cu qu am lf dn) k t)), .int .i64 (Dk.left (Dk.crash (Dk.mk du cu qu am lf dn) k t)), .bool (Dk.down (Dk.crash (Dk.mk du cu qu am lf dn) k t))], .arr 5 (Dk.dur (Dk.crash (Dk.mk du cu qu am lf dn) k t)), .arr 5 (Dk.cur (Dk.crash (Dk.mk du cu qu am lf dn) k t))]))
  | _, _ => (false, ([], []))
noncomputable def s24 : Go.Abs.Spec := fun args blk => match args, blk with
  | [.one (.ptr 0 0)], [.var [.msl 5 1 un, .msl 5 2 cn, .sl true 85 qu, .bool am, .int .i64 lf, .bool dn], .arr 5 du, .arr 5 cu] => ((okDk un cn (Dk.mk du cu qu am lf dn)), ([.one (.str (Dk.all (Dk.mk du cu qu am lf dn)))], [.var [.msl 5 1 un, .msl 5 2 cn, .sl true 85 qu, .bool am, .int .i64 lf, .bool dn], .arr 5 du, .arr 5 cu]))
  | _, _ => (false, ([], []))
noncomputable def s70 : Go.Abs.Spec := fun args blk => match args, blk with
  | [.one (.ptr 0 0)], [.var [.msl 5 1 un, .msl 5 2 cn, .sl true 85 qu, .bool am, .int .i64 lf, .bool dn], .arr 5 du, .arr 5 cu] => ((okDk un cn (Dk.mk du cu qu am lf dn)), ([.one (.int .i64 (Dk.half (Dk.mk du cu qu am lf dn)))], [.var [.msl 5 1 un, .msl 5 2 cn, .sl true 85 qu, .bool am, .int .i64 lf, .bool dn], .arr 5 du, .arr 5 cu]))
  | _, _ => (false, ([], []))
noncomputable def s45 : Go.Abs.Spec := fun args blk => match args, blk with
  | [.one (.ptr 0 0), .one (.int .i64 s)], [.var [.ptr 1 0, .int .i64 ac, .int .u64 ge, .sl true 22 rc, .int .i64 fi, .bool fa], .var [.msl 5 2 un, .msl 5 3 cn, .sl true 85 qu, .bool am, .int .i64 lf, .bool dn], .arr 5 du, .arr 5 cu] => ((okDk un cn (Dk.mk du cu qu am lf dn) && okSeg s), ([.one (.int .i64 (s * Dk.half (Dk.mk du cu qu am lf dn)))], [.var [.ptr 1 0, .int .i64 ac, .int .u64 ge, .sl true 22 rc, .int .i64 fi, .bool fa], .var [.msl 5 2 un, .msl 5 3 cn, .sl true 85 qu, .bool am, .int .i64 lf, .bool dn], .arr 5 du, .arr 5 cu]))
  | _, _ => (false, ([], []))
noncomputable def s47 : Go.Abs.Spec := fun args blk => match args, blk with
  | [.one (.ptr 0 0), .one (.int .i64 s)], [.var [.ptr 1 0, .int .i64 ac, .int .u64 ge, .sl true 22 rc, .int .i64 fi, .bool fa], .var [.msl 5 2 un, .msl 5 3 cn, .sl true 85 qu, .bool am, .int .i64 lf, .bool dn], .arr 5 du, .arr 5 cu] => ((okDk un cn (Dk.mk du cu qu am lf dn) && okSeg s), ([.one (.int .i64 (s * Dk.half (Dk.mk du cu qu am lf dn) + 32))], [.var [.ptr 1 0, .int .i64 ac, .int .u64 ge, .sl true 22 rc, .int .i64 fi, .bool fa], .var [.msl 5 2 un, .msl 5 3 cn, .sl true 85 qu, .bool am, .int .i64 lf, .bool dn], .arr 5 du, .arr 5 cu]))
  | _, _ => (false, ([], []))
noncomputable def s48 : Go.Abs.Spec := fun args blk => match args, blk with
  | [.one (.ptr 0 0)], [.var [.ptr 1 0, .int .i64 ac, .int .u64 ge, .sl true 22 rc, .int .i64 fi, .bool fa], .var [.msl 5 2 un, .msl 5 3 cn, .sl true 85 qu, .bool am, .int .i64 lf, .bool dn], .arr 5 du, .arr 5 cu] => ((okDk un cn (Dk.mk du cu qu am lf dn)), ([.one (.int .i64 (Dk.half (Dk.mk du cu qu am lf dn) - 32))], [.var [.ptr 1 0, .int .i64 ac, .int .u64 ge, .sl true 22 rc, .int .i64 fi, .bool fa], .var [.msl 5 2 un, .msl 5 3 cn, .sl true 85 qu, .bool am, .int .i64 lf, .bool dn], .arr 5 du, .arr 5 cu]))
  | _, _ => (false, ([], []))
noncomputable def s50 : Go.Abs.Spec := fun args blk => match args, blk with
  | [.one (.ptr 0 0), .one (.int .i64 o), .one (.sl false 5 x)], [.var [.ptr 1 0, .int .i64 ac, .int .u64 ge, .sl true 22 rc, .int .i64 fi, .bool fa], .var [.msl 5 2 un, .msl 5 3 cn, .sl true 85 qu, .bool am, .int .i64 lf, .bool dn], .arr 5 du, .arr 5 cu] => ((okDk un cn (Dk.mk du cu qu am lf dn) && okWx (Dk.mk du cu qu am lf dn) x), ([.one (.int .i64 (Dr.e (Dk.store (Dk.mk du cu qu am lf dn) o x)))], [.var [.ptr 1 0, .int .i64 ac, .int .u64 ge, .sl true 22 rc, .int .i64 fi, .bool ((Dr.e (Dk.store (Dk.mk du cu qu am lf dn) o x)) != 0)], .var [.msl 5 2 un, .msl 5 3 cn, .sl true 85 (Dk.q (Dr.d (Dk.store (Dk.mk du cu qu am lf dn) o x))), .bool (Dk.arm (Dr.d (Dk.store (Dk.mk du cu qu am lf dn) o x))), .int .i64 (Dk.left (Dr.d (Dk.store (Dk.mk du cu qu am lf dn) o x))), .bool (Dk.down (Dr.d (Dk.store (Dk.mk du cu qu am lf dn) o x)))], .arr 5 (Dk.dur (Dr.d (Dk.store (Dk.mk du cu qu am lf dn) o x))), .arr 5 (Dk.cur (Dr.d (Dk.store (Dk.mk du cu qu am lf dn) o x)))]))
  | _, _ => (false, ([], []))
noncomputable def s22 : Go.Abs.Spec := fun args blk => match args, blk with
  | [.one (.ptr 0 0)], [.var [.msl 5 1 un, .msl 5 2 cn, .sl true 85 qu, .bool am, .int .i64 lf, .bool dn], .arr 5 du, .arr 5 cu] => ((okDk un cn (Dk.mk du cu qu am lf dn) && (pd (qu.length ≤ 1000000) && ((Lr.e (openM (Dk.mk du cu qu am lf dn))) == 0))), ([.one (.ptr 3 0), .one (.int .i64 0)], [.var [.msl 5 1 un, .msl 5 2 cn, .sl true 85 (Dk.q (Lr.d (openM (Dk.mk du cu qu am lf dn)))), .bool (Dk.arm (Lr.d (openM (Dk.mk du cu qu am lf dn)))), .int .i64 (Dk.left (Lr.d (openM (Dk.mk du cu qu am lf dn)))), .bool (Dk.down (Lr.d (openM (Dk.mk du cu qu am lf dn))))], .arr 5 (Dk.dur (Lr.d (openM (Dk.mk du cu qu am lf dn)))), .arr 5 (Dk.cur (Lr.d (openM (Dk.mk du cu qu am lf dn)))), .var [.ptr 0 0, .int .i64 (Lg.act (Lr.l (openM (Dk.mk du cu qu am lf dn)))), .int .u64 (Lg.gen (Lr.l (openM (Dk.mk du cu qu am lf dn)))), .sl true 22 (Lg.recs (Lr.l (openM (Dk.mk du cu qu am lf dn)))), .int .i64 (Lg.fin (Lr.l (openM (Dk.mk du cu qu am lf dn)))), .bool (Lg.failed (Lr.l (openM (Dk.mk du cu qu am lf dn))))]]))
  | _, _ => (false, ([], []))
noncomputable def s59 : Go.Abs.Spec := fun args blk => match args, blk with
  | [.one (.sl false 22 r)], [] => ((okRs r), ([.one (.sl true 22 (cloneR r))], []))
  | _, _ => (false, ([], []))
noncomputable def s28 : Go.Abs.Spec := fun args blk => match args, blk with
  | [.one (.ptr 0 0)], [.var [.ptr 1 0, .int .i64 ac, .int .u64 ge, .sl true 22 rc, .int .i64 fi, .bool fa], .var [.msl 5 2 un, .msl 5 3 cn, .sl true 85 qu, .bool am, .int .i64 lf, .bool dn], .arr 5 du, .arr 5 cu] => ((okRs rc), ([.one (.sl true 22 (cloneR rc))], [.var [.ptr 1 0, .int .i64 ac, .int .u64 ge, .sl true 22 rc, .int .i64 fi, .bool fa], .var [.msl 5 2 un, .msl 5 3 cn, .sl true 85 qu, .bool am, .int .i64 lf, .bool dn], .arr 5 du, .arr 5 cu]))
  | [.one (.nilp)], [] => (true, ([.one (.sl true 22 [])], []))
  | _, _ => (false, ([], []))
noncomputable def s29 : Go.Abs.Spec := fun args blk => match args, blk with
  | [.one (.ptr 0 0)], [.var [.ptr 1 0, .int .i64 ac, .int .u64 ge, .sl true 22 rc, .int .i64 fi, .bool fa], .var [.msl 5 2 un, .msl 5 3 cn, .sl true 85 qu, .bool am, .int .i64 lf, .bool dn], .arr 5 du, .arr 5 cu] => (true, ([.one (.int .u64 ge)], [.var [.ptr 1 0, .int .i64 ac, .int .u64 ge, .sl true 22 rc, .int .i64 fi, .bool fa], .var [.msl 5 2 un, .msl 5 3 cn, .sl true 85 qu, .bool am, .int .i64 lf, .bool dn], .arr 5 du, .arr 5 cu]))
  | [.one (.nilp)], [] => (true, ([.one (.int .u64 0)], []))
  | _, _ => (false, ([], []))
noncomputable def s30 : Go.Abs.Spec := fun args blk => match args, blk with
  | [.one (.ptr 0 0)], [.var [.ptr 1 0, .int .i64 ac, .int .u64 ge, .sl true 22 rc, .int .i64 fi, .bool fa], .var [.msl 5 2 un, .msl 5 3 cn, .sl true 85 qu, .bool am, .int .i64 lf, .bool dn], .arr 5 du, .arr 5 cu] => ((okDk un cn (Dk.mk du cu qu am lf dn) && okLg (Dk.mk du cu qu am lf dn) (Lg.mk ac ge rc fi fa)), ([.one (.int .i64 (Lg.free (Lg.mk ac ge rc fi fa) (Dk.mk du cu qu am lf dn)))], [.var [.ptr 1 0, .int .i64 ac, .int .u64 ge, .sl true 22 rc, .int .i64 fi, .bool fa], .var [.msl 5 2 un, .msl 5 3 cn, .sl true 85 qu, .bool am, .int .i64 lf, .bool dn], .arr 5 du, .arr 5 cu]))
  | [.one (.nilp)], [] => (true, ([.one (.int .i64 0)], []))
  | _, _ => (false, ([], []))
noncomputable def s61 : Go.Abs.Spec := fun args blk => match args, blk with
  | [.one (.ptr 0 0)], [.var [.ptr 1 0, .int .i64 ac, .int .u64 ge, .sl true 22 rc, .int .i64 fi, .bool fa], .var [.msl 5 2 un, .msl 5 3 cn, .sl true 85 qu, .bool am, .int .i64 lf, .bool dn], .arr 5 du, .arr 5 cu] => (true, ([.one (.int .i64 (useE fa))], [.var [.ptr 1 0, .int .i64 ac, .int .u64 ge, .sl true 22 rc, .int .i64 fi, .bool fa], .var [.msl 5 2 un, .msl 5 3 cn, .sl true 85 qu, .bool am, .int .i64 lf, .bool dn], .arr 5 du, .arr 5 cu]))
  | [.one (.nilp)], [] => (true, ([.one (.int .i64 17)], []))
  | _, _ => (false, ([], []))
noncomputable def s62 : Go.Abs.Spec := fun args blk => match args, blk with
  | [.one (.sl false 5 x)], [] => (true, ([.one (.int .i64 (recE x))], []))
  | _, _ => (false, ([], []))
noncomputable def s33 : Go.Abs.Spec := fun args blk => match args, blk with
  | [.one (.ptr 0 0), .one (.sl false 5 x)], [.var [.ptr 1 0, .int .i64 ac, .int .u64 ge, .sl true 22 rc, .int .i64 fi, .bool fa], .var [.msl 5 2 un, .msl 5 3 cn, .sl true 85 qu, .bool am, .int .i64 lf, .bool dn], .arr 5 du, .arr 5 cu] => ((okDk un cn (Dk.mk du cu qu am lf dn) && okLg (Dk.mk du cu qu am lf dn) (Lg.mk ac ge rc fi fa) && okAp (Dk.mk du cu qu am lf dn) x), ([.one (.int .i64 (Lr.e (appM (Dk.mk du cu qu am lf dn) (Lg.mk ac ge rc fi fa) x)))], [.var [.ptr 1 0, .int .i64 (Lg.act (Lr.l (appM (Dk.mk du cu qu am lf dn) (Lg.mk ac ge rc fi fa) x))), .int .u64 (Lg.gen (Lr.l (appM (Dk.mk du cu qu am lf dn) (Lg.mk ac ge rc fi fa) x))), .sl true 22 (Lg.recs (Lr.l (appM (Dk.mk du cu qu am lf dn) (Lg.mk ac ge rc fi fa) x))), .int .i64 (Lg.fin (Lr.l (appM (Dk.mk du cu qu am lf dn) (Lg.mk ac ge rc fi fa) x))), .bool (Lg.failed (Lr.l (appM (Dk.mk du cu qu am lf dn) (Lg.mk ac ge rc fi fa) x)))], .var [.msl 5 2 un, .msl 5 3 cn, .sl true 85 (Dk.q (Lr.d (appM (Dk.mk du cu qu am lf dn) (Lg.mk ac ge rc fi fa) x))), .bool (Dk.arm (Lr.d (appM (Dk.mk du cu qu am lf dn) (Lg.mk ac ge rc fi fa) x))), .int .i64 (Dk.left (Lr.d (appM (Dk.mk du cu qu am lf dn) (Lg.mk ac ge rc fi fa) x))), .bool (Dk.down (Lr.d (appM (Dk.mk du cu qu am lf dn) (Lg.mk ac ge rc fi fa) x)))], .arr 5 (Dk.dur (Lr.d (appM (Dk.mk du cu qu am lf dn) (Lg.mk ac ge rc fi fa) x))), .arr 5 (Dk.cur (Lr.d (appM (Dk.mk du cu qu am lf dn) (Lg.mk ac ge rc fi fa) x)))]))
  | [.one (.nilp), .one (.sl false 5 x)], [] => (true, ([.one (.int .i64 17)], []))
  | [.one (.ptr 0 0), .one (.nils)], [.var [.ptr 1 0, .int .i64 ac, .int .u64 ge, .sl true 22 rc, .int .i64 fi, .bool fa], .var [.msl 5 2 un, .msl 5 3 cn, .sl true 85 qu, .bool am, .int .i64 lf, .bool dn], .arr 5 du, .arr 5 cu] => ((okDk un cn (Dk.mk du cu qu am lf dn) && okLg (Dk.mk du cu qu am lf dn) (Lg.mk ac ge rc fi fa) && okAp (Dk.mk du cu qu am lf dn) []), ([.one (.int .i64 (Lr.e (appM (Dk.mk du cu qu am lf dn) (Lg.mk ac ge rc fi fa) [])))], [.var [.ptr 1 0, .int .i64 (Lg.act (Lr.l (appM (Dk.mk du cu qu am lf dn) (Lg.mk ac ge rc fi fa) []))), .int .u64 (Lg.gen (Lr.l (appM (Dk.mk du cu qu am lf dn) (Lg.mk ac ge rc fi fa) []))), .sl true 22 (Lg.recs (Lr.l (appM (Dk.mk du cu qu am lf dn) (Lg.mk ac ge rc fi fa) []))), .int .i64 (Lg.fin (Lr.l (appM (Dk.mk du cu qu am lf dn) (Lg.mk ac ge rc fi fa) []))), .bool (Lg.failed (Lr.l (appM (Dk.mk du cu qu am lf dn) (Lg.mk ac ge rc fi fa) [])))], .var [.msl 5 2 un, .msl 5 3 cn, .sl true 85 (Dk.q (Lr.d (appM (Dk.mk du cu qu am lf dn) (Lg.mk ac ge rc fi fa) []))), .bool (Dk.arm (Lr.d (appM (Dk.mk du cu qu am lf dn) (Lg.mk ac ge rc fi fa) []))), .int .i64 (Dk.left (Lr.d (appM (Dk.mk du cu qu am lf dn) (Lg.mk ac ge rc fi fa) []))), .bool (Dk.down (Lr.d (appM (Dk.mk du cu qu am lf dn) (Lg.mk ac ge rc fi fa) [])))], .arr 5 (Dk.dur (Lr.d (appM (Dk.mk du cu qu am lf dn) (Lg.mk ac ge rc fi fa) []))), .arr 5 (Dk.cur (Lr.d (appM (Dk.mk du cu qu am lf dn) (Lg.mk ac ge rc fi fa) [])))]))
  | _, _ => (false, ([], []))
noncomputable def s34 : Go.Abs.Spec := fun args blk => match args, blk with
  | [.one (.ptr 0 0), .one (.sl false 22 r)], [.var [.ptr 1 0, .int .i64 ac, .int .u64 ge, .sl true 22 rc, .int .i64 fi, .bool fa], .var [.msl 5 2 un, .msl 5 3 cn, .sl true 85 qu, .bool am, .int .i64 lf, .bool dn], .arr 5 du, .arr 5 cu] => ((okDk un cn (Dk.mk du cu qu am lf dn) && okLg (Dk.mk du cu qu am lf dn) (Lg.mk ac ge rc fi fa) && okRp (Dk.mk du cu qu am lf dn) r), ([.one (.int .i64 (Lr.e (repM (Dk.mk du cu qu am lf dn) (Lg.mk ac ge rc fi fa) r)))], [.var [.ptr 1 0, .int .i64 (Lg.act (Lr.l (repM (Dk.mk du cu qu am lf dn) (Lg.mk ac ge rc fi fa) r))), .int .u64 (Lg.gen (Lr.l (repM (Dk.mk du cu qu am lf dn) (Lg.mk ac ge rc fi fa) r))), .sl true 22 (Lg.recs (Lr.l (repM (Dk.mk du cu qu am lf dn) (Lg.mk ac ge rc fi fa) r))), .int .i64 (Lg.fin (Lr.l (repM (Dk.mk du cu qu am lf dn) (Lg.mk ac ge rc fi fa) r))), .bool (Lg.failed (Lr.l (repM (Dk.mk du cu qu am lf dn) (Lg.mk ac ge rc fi fa) r)))], .var [.msl 5 2 un, .msl 5 3 cn, .sl true 85 (Dk.q (Lr.d (repM (Dk.mk du cu qu am lf dn) (Lg.mk ac ge rc fi fa) r))), .bool (Dk.arm (Lr.d (repM (Dk.mk du cu qu am lf dn) (Lg.mk ac ge rc fi fa) r))), .int .i64 (Dk.left (Lr.d (repM (Dk.mk du cu qu am lf dn) (Lg.mk ac ge rc fi fa) r))), .bool (Dk.down (Lr.d (repM (Dk.mk du cu qu am lf dn) (Lg.mk ac ge rc fi fa) r)))], .arr 5 (Dk.dur (Lr.d (repM (Dk.mk du cu qu am lf dn) (Lg.mk ac ge rc fi fa) r))), .arr 5 (Dk.cur (Lr.d (repM (Dk.mk du cu qu am lf dn) (Lg.mk ac ge rc fi fa) r)))]))
  | [.one (.nilp), .one (.nils)], [] => (true, ([.one (.int .i64 17)], []))
  | [.one (.ptr 0 0), .one (.nils)], [.var [.ptr 1 0, .int .i64 ac, .int .u64 ge, .sl true 22 rc, .int .i64 fi, .bool fa], .var [.msl 5 2 un, .msl 5 3 cn, .sl true 85 qu, .bool am, .int .i64 lf, .bool dn], .arr 5 du, .arr 5 cu] => ((okDk un cn (Dk.mk du cu qu am lf dn) && okLg (Dk.mk du cu qu am lf dn) (Lg.mk ac ge rc fi fa) && okRp (Dk.mk du cu qu am lf dn) []), ([.one (.int .i64 (Lr.e (repM (Dk.mk du cu qu am lf dn) (Lg.mk ac ge rc fi fa) [])))], [.var [.ptr 1 0, .int .i64 (Lg.act (Lr.l (repM (Dk.mk du cu qu am lf dn) (Lg.mk ac ge rc fi fa) []))), .int .u64 (Lg.gen (Lr.l (repM (Dk.mk du cu qu am lf dn) (Lg.mk ac ge rc fi fa) []))), .sl true 22 (Lg.recs (Lr.l (repM (Dk.mk du cu qu am lf dn) (Lg.mk ac ge rc fi fa) []))), .int .i64 (Lg.fin (Lr.l (repM (Dk.mk du cu qu am lf dn) (Lg.mk ac ge rc fi fa) []))), .bool (Lg.failed (Lr.l (repM (Dk.mk du cu qu am lf dn) (Lg.mk ac ge rc fi fa) [])))], .var [.msl 5 2 un, .msl 5 3 cn, .sl true 85 (Dk.q (Lr.d (repM (Dk.mk du cu qu am lf dn) (Lg.mk ac ge rc fi fa) []))), .bool (Dk.arm (Lr.d (repM (Dk.mk du cu qu am lf dn) (Lg.mk ac ge rc fi fa) []))), .int .i64 (Dk.left (Lr.d (repM (Dk.mk du cu qu am lf dn) (Lg.mk ac ge rc fi fa) []))), .bool (Dk.down (Lr.d (repM (Dk.mk du cu qu am lf dn) (Lg.mk ac ge rc fi fa) [])))], .arr 5 (Dk.dur (Lr.d (repM (Dk.mk du cu qu am lf dn) (Lg.mk ac ge rc fi fa) []))), .arr 5 (Dk.cur (Lr.d (repM (Dk.mk du cu qu am lf dn) (Lg.mk ac ge rc fi fa) [])))]))
  | _, _ => (false, ([], []))
noncomputable def s15 : Go.Abs.Spec := fun args blk => match args, blk with
  | [.one (.sl false 5 x), .one (.int .i64 n)], [] => ((pd ((0 : Int) ≤ n) && pd (n ≤ (1000 : Int))), ([.one (.sl true 5 (x.take (Int.toNat n)))], []))
  | _, _ => (false, ([], []))
noncomputable def s27 : Go.Abs.Spec := fun args blk => match args, blk with
  | [.one (.sl false 22 r), .one (.sl false 22 t)], [] => ((pd (r.length ≤ 9223372036854775807)), ([.one (.bool (sameR r t))], []))
  | _, _ => (false, ([], []))
noncomputable def s18 : Go.Abs.Spec := fun args blk => match args, blk with
  | [.one (.sl false 22 r), .one (.int .i64 k)], [] => ((pd (r.length ≤ 9223372036854775807) && pd (k ≤ (1000 : Int))), ([.one (.sl true 22 (mkRs r k))], []))
  | _, _ => (false, ([], []))
noncomputable def s26 : Go.Abs.Spec := fun args blk => match args, blk with
  | [], [] => (true, ([.one (.bool true)], []))
  | _, _ => (false, ([], []))
noncomputable def s4 : Go.Abs.Spec := fun args blk => match args, blk with
  | [.one (.int .i64 z), .one (.sl false 22 r)], [] => ((okArg r), ([.one (.bool true)], []))
  | _, _ => (false, ([], []))
noncomputable def s5 : Go.Abs.Spec := fun args blk => match args, blk with
  | [.one (.sl false 22 r), .one (.sl false 22 t)], [] => ((okArg r && okArg t), ([.one (.bool true)], []))
  | _, _ => (false, ([], []))
noncomputable def s10 : Go.Abs.Spec := fun args blk => match args, blk with
  | [.one (.sl false 22 r), .one (.int .i64 f), .one (.int .i64 k)], [] => ((okArg r), ([.one (.bool true)], []))
  | _, _ => (false, ([], []))
noncomputable def s6 : Go.Abs.Spec := fun args blk => match args, blk with
  | [.one (.sl false 22 r), .one (.int .i64 w), .one (.int .i64 a), .one (.int .u8 y)], [] => ((okArg r && okY y), ([.one (.bool true)], []))
  | _, _ => (false, ([], []))
noncomputable def s9 : Go.Abs.Spec := fun args blk => match args, blk with
  | [.one (.sl false 22 r), .one (.sl false 22 t), .one (.bool p), .one (.int .i64 f), .one (.int .i64 k), .one (.int .i64 o), .one (.sl false 67 g)], [] => ((okArg r && okArg t), ([.one (.bool true)], []))
  | _, _ => (false, ([], []))
noncomputable def L : List (Nat × Go.Abs.Spec) := []
noncomputable def L11 : List (Nat × Go.Abs.Spec) := (11, s11) :: L
noncomputable def L72 : List (Nat × Go.Abs.Spec) := (72, s72) :: L11
noncomputable def L73 : List (Nat × Go.Abs.Spec) := (73, s73) :: L72
noncomputable def L71 : List (Nat × Go.Abs.Spec) := (71, s71) :: L73
noncomputable def L51 : List (Nat × Go.Abs.Spec) := (51, s51) :: L71
noncomputable def L46 : List (Nat × Go.Abs.Spec) := (46, s46) :: L51
noncomputable def L77 : List (Nat × Go.Abs.Spec) := (77, s77) :: L46
noncomputable def L63 : List (Nat × Go.Abs.Spec) := (63, s63) :: L77
noncomputable def L74 : List (Nat × Go.Abs.Spec) := (74, s74) :: L63
noncomputable def L52 : List (Nat × Go.Abs.Spec) := (52, s52) :: L74
noncomputable def L49 : List (Nat × Go.Abs.Spec) := (49, s49) :: L52
noncomputable def L12 : List (Nat × Go.Abs.Spec) := (12, s12) :: L49
noncomputable def L32 : List (Nat × Go.Abs.Spec) := (32, s32) :: L12
noncomputable def L38 : List (Nat × Go.Abs.Spec) := (38, s38) :: L32
noncomputable def L44 : List (Nat × Go.Abs.Spec) := (44, s44) :: L38
noncomputable def L35 : List (Nat × Go.Abs.Spec) := (35, s35) :: L44
noncomputable def L36 : List (Nat × Go.Abs.Spec) := (36, s36) :: L35
noncomputable def L20 : List (Nat × Go.Abs.Spec) := (20, s20) :: L36
noncomputable def L39 : List (Nat × Go.Abs.Spec) := (39, s39) :: L20
noncomputable def L40 : List (Nat × Go.Abs.Spec) := (40, s40) :: L39
noncomputable def L24 : List (Nat × Go.Abs.Spec) := (24, s24) :: L40
noncomputable def L70 : List (Nat × Go.Abs.Spec) := (70, s70) :: L24
noncomputable def L45 : List (Nat × Go.Abs.Spec) := (45, s45) :: L70
noncomputable def L47 : List (Nat × Go.Abs.Spec) := (47, s47) :: L45
noncomputable def L48 : List (Nat × Go.Abs.Spec) := (48, s48) :: L47
noncomputable def L50 : List (Nat × Go.Abs.Spec) := (50, s50) :: L48
noncomputable def L22 : List (Nat × Go.Abs.Spec) := (22, s22) :: L50
noncomputable def L59 : List (Nat × Go.Abs.Spec) := (59, s59) :: L22
noncomputable def L28 : List (Nat × Go.Abs.Spec) := (28, s28) :: L59
noncomputable def L29 : List (Nat × Go.Abs.Spec) := (29, s29) :: L28
noncomputable def L30 : List (Nat × Go.Abs.Spec) := (30, s30) :: L29
noncomputable def L61 : List (Nat × Go.Abs.Spec) := (61, s61) :: L30
noncomputable def L62 : List (Nat × Go.Abs.Spec) := (62, s62) :: L61
noncomputable def L33 : List (Nat × Go.Abs.Spec) := (33, s33) :: L62
noncomputable def L34 : List (Nat × Go.Abs.Spec) := (34, s34) :: L33
noncomputable def L15 : List (Nat × Go.Abs.Spec) := (15, s15) :: L34
noncomputable def L27 : List (Nat × Go.Abs.Spec) := (27, s27) :: L15
noncomputable def L18 : List (Nat × Go.Abs.Spec) := (18, s18) :: L27
noncomputable def L26 : List (Nat × Go.Abs.Spec) := (26, s26) :: L18
noncomputable def L4 : List (Nat × Go.Abs.Spec) := (4, s4) :: L26
noncomputable def L5 : List (Nat × Go.Abs.Spec) := (5, s5) :: L4
noncomputable def L10 : List (Nat × Go.Abs.Spec) := (10, s10) :: L5
noncomputable def L6 : List (Nat × Go.Abs.Spec) := (6, s6) :: L10
/-- whether a log is opened; the log's block, if there is one -/
noncomputable def okO (d : Dk) : Bool := pd ((openM d).e = 0)
noncomputable def tl22 (d : Dk) : List Block := cond (okO d) [.var [.ptr 0 0, .int .i64 (openM d).l.act, .int .u64 (openM d).l.gen, .sl true 22 (openM d).l.recs, .int .i64 (openM d).l.fin, .bool (openM d).l.failed]] []
noncomputable def R22 (un cn : Nat) (d : Dk) : List AV × List Block :=
  ([.one (cond (okO d) (.ptr 3 0) .nilp), .one (.int .i64 (openM d).e)], [.var [.msl 5 1 un, .msl 5 2 cn, .sl true 85 (openM d).d.q, .bool (openM d).d.arm, .int .i64 (openM d).d.left, .bool (openM d).d.down], .arr 5 (openM d).d.dur, .arr 5 (openM d).d.cur] ++ tl22 d)
noncomputable def oL (l : List Block) : Lg := ⟨(acAt (blkAt l 0).toL 1).toI, (acAt (blkAt l 0).toL 2).toI, (acAt (blkAt l 0).toL 3).toR, (acAt (blkAt l 0).toL 4).toI, (acAt (blkAt l 0).toL 5).toB⟩
noncomputable def okM (un cn : Nat) (d : Dk) : Bool := Sig.ok ⟨[.one (.ptr 3 0), .one (.int .i64)], [[.msl 5 1, .msl 5 2, .sl true 85, .bool, .int .i64, .bool], [.arrp 5], [.arrp 5], [.ptr 0 0, .int .i64, .int .u64, .sl true 22, .int .i64, .bool]], []⟩ (R22 un cn d)
noncomputable def okF (un cn : Nat) (d : Dk) : Bool := Sig.ok ⟨[.one (.nilp), .one (.int .i64)], [[.msl 5 1, .msl 5 2, .sl true 85, .bool, .int .i64, .bool], [.arrp 5], [.arrp 5]], []⟩ (R22 un cn d)
noncomputable def s22b : Go.Abs.Spec := fun args blk => match args, blk with
  | [.one (.ptr 0 0)], [.var [.msl 5 1 un, .msl 5 2 cn, .sl true 85 qu, .bool am, .int .i64 lf, .bool dn], .arr 5 du, .arr 5 cu] => (okDk un cn (Dk.mk du cu qu am lf dn) && pd (qu.length ≤ 1000000), R22 un cn (Dk.mk du cu qu am lf dn))
  | _, _ => (false, ([], []))
noncomputable def L22b : List (Nat × Go.Abs.Spec) := (22, s22b) :: L6
noncomputable def L9 : List (Nat × Go.Abs.Spec) := (9, s9) :: L22b
theorem tabs : tabB Try.prog E tyTab = true := by kernel_rfl
theorem good : Go.Abs.Good Try.prog E := good_of (l := tyTab) rfl tabs

end Go.Proofs.Ytpafnokcmhlbgaa
