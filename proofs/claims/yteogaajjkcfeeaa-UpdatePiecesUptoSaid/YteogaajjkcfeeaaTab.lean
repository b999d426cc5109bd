/-
  The tables of this seat: types, functions with their notes, contracts. Printed by a program of our own.
-/
import Derived.Test.YteogaajjkcfeeaaA28
import Derived.Test.YteogaajjkcfeeaaDefs
import Derived.Test.YteogaajjkcfeeaaProg
namespace Go.Proofs.Yteogaajjkcfeeaa
open Go.Abs

def tyTab : List (Nat × Ty) := [
  (2, ⟨.int .i64, 1, 8, [.int .i64], false⟩),
  (3, ⟨.int .i64, 1, 8, [.int .i64], false⟩),
  (4, ⟨.bool, 1, 1, [.bool], false⟩),
  (5, ⟨.int .u8, 1, 1, [.int .u8], false⟩),
  (9, ⟨.str, 1, 16, [.str], false⟩),
  (23, ⟨.struct [(0, 3), (1, 9), (2, 9), (3, 2), (4, 9)], 5, 64, [.int .i64, .str, .str, .int .i64, .str], true⟩),
  (25, ⟨.int .i64, 1, 8, [.int .i64], false⟩),
  (28, ⟨.slice 23, 1, 24, [.slice 23], false⟩),
  (30, ⟨.struct [(0, 3), (1, 3), (2, 3), (3, 28)], 4, 48, [.int .i64, .int .i64, .int .i64, .slice 23], false⟩),
  (36, ⟨.slice 5, 1, 24, [.slice 5], false⟩),
  (42, ⟨.slice 3, 1, 24, [.slice 3], false⟩),
  (43, ⟨.int .u16, 1, 2, [.int .u16], false⟩),
  (45, ⟨.slice 30, 1, 24, [.slice 30], false⟩),
  (55, ⟨.int .u64, 1, 8, [.int .u64], false⟩),
  (59, ⟨.struct [(0, 36), (1, 3), (2, 25)], 3, 40, [.slice 5, .int .i64, .int .i64], false⟩),
  (70, ⟨.int .u64, 1, 8, [.int .u64], false⟩),
  (71, ⟨.ptr 59, 1, 8, [.ptr], false⟩),
  (86, ⟨.slice 9, 1, 24, [.slice 9], false⟩)]

noncomputable def codeOf (f : Func) : Code := match f.body with | some c => c | none => .skip
noncomputable def F30 : AFunc := ⟨codeOf Try.f30, .leaf, [3], [.tmp 2], [], [], true⟩
noncomputable def F11 : AFunc := ⟨codeOf Try.f11, .leaf, [23], [.tmp 2], [], [], true⟩
noncomputable def F12 : AFunc := ⟨codeOf Try.f12, .leaf, [23], [.tmp 2], [], [], true⟩
noncomputable def F32 : AFunc := ⟨codeOf Try.f32, .leaf, [23], [.tmp 2], [], [], true⟩
noncomputable def F49 : AFunc := ⟨codeOf Try.f49, (.seq none .leaf (.seq none (.seq none .leaf (.sub (.loop [(0, false), (1, false), (7, false), (8, false)] .leaf))) .leaf)), [28, 27], [.tmp 4], [], [], true⟩
noncomputable def F31 : AFunc := ⟨codeOf Try.f31, .leaf, [28, 27], [.tmp 4], [], [], true⟩
noncomputable def F16 : AFunc := ⟨codeOf Try.f16, (.seq none (.reg [1] []) .leaf), [30], [.tmp 2], [], [], true⟩
noncomputable def F17 : AFunc := ⟨codeOf Try.f17, (.seq none (.reg [1] []) (.seq none (.seq none .leaf (.sub (.loop [(1, true), (3, false)] .leaf))) .leaf)), [30], [.tmp 2], [], [], true⟩
noncomputable def F14 : AFunc := ⟨codeOf Try.f14, (.seq none (.reg [1] []) (.seq none .leaf (.seq none (.seq none .leaf (.sub (.loop [(1, true), (46, false), (47, false), (48, false)] .leaf))) .leaf))), [30], [.tmp 2], [], [], true⟩
noncomputable def F15 : AFunc := ⟨codeOf Try.f15, (.seq none (.reg [1] []) (.seq none .leaf (.seq none (.seq none .leaf (.sub (.loop [(1, true), (3, false)] .leaf))) .leaf))), [30], [.tmp 2], [], [], true⟩
noncomputable def F50 : AFunc := ⟨codeOf Try.f50, .leaf, [3], [.tmp 2], [], [], true⟩
noncomputable def F34 : AFunc := ⟨codeOf Try.f34, .leaf, [3, 3], [.tmp 4], [], [], true⟩
noncomputable def F33 : AFunc := ⟨codeOf Try.f33, (.seq none .leaf (.seq none .leaf (.seq none (.seq none .leaf (.sub (.loop [(3, false), (6, false), (7, false), (8, false)] .leaf))) .leaf))), [42], [.tmp 2], [], [], true⟩
noncomputable def F18 : AFunc := ⟨codeOf Try.f18, (.seq none (.reg [2, 3] []) .leaf), [30, 30], [.tmp 4], [], [], true⟩
noncomputable def F19 : AFunc := ⟨codeOf Try.f19, (.seq none (.reg [2, 3] []) .leaf), [30, 30], [.tmp 4], [], [], true⟩
noncomputable def F20 : AFunc := ⟨codeOf Try.f20, (.seq none (.reg [2, 3] []) .leaf), [30, 30], [.tmp 4], [], [], true⟩
noncomputable def F21 : AFunc := ⟨codeOf Try.f21, (.seq none (.reg [2, 3] []) .leaf), [30, 30], [.tmp 4], [], [], true⟩
noncomputable def F35 : AFunc := ⟨codeOf Try.f35, (.seq none .leaf (.seq none .leaf (.seq none (.seq none .leaf (.sub (.loop [(0, false), (1, false), (12, false), (13, false)] .leaf))) .leaf))), [28, 28], [.tmp 4], [], [], true⟩
noncomputable def F22 : AFunc := ⟨codeOf Try.f22, (.seq none (.reg [2, 3] []) .leaf), [30, 30], [.tmp 4], [], [], true⟩
noncomputable def F23 : AFunc := ⟨codeOf Try.f23, (.seq none (.reg [2, 3] []) (.seq none .leaf (.seq none (.seq none .leaf (.sub (.loop [(2, true), (3, true), (5, false)] .leaf))) .leaf))), [30, 30], [.tmp 4], [], [], true⟩
noncomputable def F13 : AFunc := ⟨codeOf Try.f13, (.seq none (.reg [1] []) .leaf), [30], [.tmp 2], [], [], true⟩
noncomputable def F10 : AFunc := ⟨codeOf Try.f10, (.seq none .leaf (.seq none (.reg [7, 8] []) (.seq none .leaf (.seq none (.reg [11, 14] []) .leaf)))), [], [.tmp 0], [], [], true⟩
noncomputable def F3 : AFunc := ⟨codeOf Try.f3, .leaf, [23], [.tmp 2], [], [], true⟩
noncomputable def F4 : AFunc := ⟨codeOf Try.f4, (.seq none (.reg [1] []) .leaf), [30], [.tmp 2], [], [], true⟩
noncomputable def F5 : AFunc := ⟨codeOf Try.f5, (.seq none (.reg [3, 4, 5] []) .leaf), [30, 30, 30], [.tmp 6], [], [], true⟩
noncomputable def F6 : AFunc := ⟨codeOf Try.f6, (.seq none (.reg [2, 3] []) .leaf), [30, 30], [.tmp 4], [], [], true⟩
noncomputable def F36 : AFunc := ⟨codeOf Try.f36, (.seq none (.reg [4] []) (.seq none (.reg [5] []) (.seq none (.sub (.loop [(0, true), (1, false), (5, true)] (.seq none .leaf (.sub (.seq none (.reg [5, 8] []) .leaf))))) (.seq none (.reg [5, 16] []) (.seq none (.reg [4, 21, 26] []) .leaf))))), [36, 55], [.tmp 4], [], [0], true⟩
noncomputable def F55 : AFunc := ⟨codeOf Try.f55, (.seq none (.reg [4] []) (.seq none (.reg [5] []) (.seq none (.sub (.loop [(1, false), (5, true)] (.seq none .leaf (.sub (.seq none (.reg [5, 11] []) .leaf))))) (.seq none (.reg [4, 20] []) .leaf)))), [36, 55], [.tmp 4], [], [0], true⟩
noncomputable def F37 : AFunc := ⟨codeOf Try.f37, (.seq none (.reg [4] []) (.seq none (.reg [4] []) .leaf)), [36, 9], [.tmp 4], [], [0], true⟩
noncomputable def F42 : AFunc := ⟨codeOf Try.f42, (.seq none (.reg [4] []) (.seq none (.reg [4] []) .leaf)), [36, 9], [.tmp 4], [], [0], true⟩
noncomputable def F56 : AFunc := ⟨codeOf Try.f56, .leaf, [2], [.tmp 2], [], [], true⟩
noncomputable def F38 : AFunc := ⟨codeOf Try.f38, (.seq none (.reg [4] []) (.seq none (.reg [4] []) .leaf)), [36, 2], [.tmp 4], [], [0], true⟩
noncomputable def F43 : AFunc := ⟨codeOf Try.f43, (.seq none (.reg [4] []) (.seq none (.reg [4] []) .leaf)), [36, 2], [.tmp 4], [], [0], true⟩
noncomputable def F24 : AFunc := ⟨codeOf Try.f24, (.seq none (.reg [3, 4] []) (.seq none .leaf (.seq none (.seq none .leaf (.sub (.loop [(0, true), (3, true), (5, false), (19, false), (20, false), (21, false)] .leaf))) (.seq none (.seq none .leaf (.sub (.loop [(0, true), (5, false), (31, false), (32, false), (33, false)] .leaf))) (.seq none (.reg [4, 57, 62] []) .leaf))))), [36, 30], [.tmp 4], [], [0], true⟩
noncomputable def F41 : AFunc := ⟨codeOf Try.f41, (.seq none (.reg [4] []) (.seq none (.seq none .leaf (.sub (.loop [(0, false), (1, false), (5, false)] (.seq none .leaf (.seq none (.sub (.reg [0] [])) .leaf))))) (.seq none (.reg [4, 19] []) .leaf))), [36, 42], [.tmp 4], [], [], true⟩
noncomputable def F26 : AFunc := ⟨codeOf Try.f26, (.seq none (.reg [3, 4] []) (.seq none (.reg [0] []) (.seq none (.seq none .leaf (.sub (.loop [(0, false), (3, true), (5, false)] (.seq none .leaf (.seq none (.sub (.seq none .leaf (.seq none (.reg [0] []) (.seq none (.reg [0] []) (.reg [0] []))))) .leaf))))) (.seq none (.reg [4, 50] []) .leaf)))), [36, 30], [.tmp 4], [], [], true⟩
noncomputable def F51 : AFunc := ⟨codeOf Try.f51, (.seq none .leaf (.scope [(0, false), (5, false), (6, false)] .leaf .leaf)), [36], [.tmp 2, .tmp 3, .tmp 4], [], [], true⟩
noncomputable def F63 : AFunc := ⟨codeOf Try.f63, (.seq none .leaf (.seq none .leaf (.seq none (.seq none .leaf (.sub (.loop [(0, false), (5, false), (6, false)] .leaf))) .leaf))), [36], [.tmp 2, .tmp 3, .tmp 4], [], [], true⟩
noncomputable def F62 : AFunc := ⟨codeOf Try.f62, .leaf, [36], [.tmp 2, .tmp 3, .tmp 4], [], [], true⟩
noncomputable def F59 : AFunc := ⟨codeOf Try.f59, .leaf, [36], [.tmp 2, .tmp 3, .tmp 4], [], [], true⟩
noncomputable def F61 : AFunc := ⟨codeOf Try.f61, .leaf, [36], [.tmp 2, .tmp 3, .tmp 4], [], [], true⟩
noncomputable def F58 : AFunc := ⟨codeOf Try.f58, .leaf, [36], [.tmp 2, .tmp 3, .tmp 4], [], [], true⟩
noncomputable def F57 : AFunc := ⟨codeOf Try.f57, .leaf, [36], [.tmp 2, .tmp 3, .tmp 4], [], [], true⟩
noncomputable def F52 : AFunc := ⟨codeOf Try.f52, .leaf, [71, 3, 25], [], [], [], true⟩
noncomputable def F39 : AFunc := ⟨codeOf Try.f39, .leaf, [71], [.tmp 2], [], [], true⟩
noncomputable def F53 : AFunc := ⟨codeOf Try.f53, .leaf, [71], [.tmp 2], [], [], true⟩
noncomputable def F54 : AFunc := ⟨codeOf Try.f54, .leaf, [71], [.tmp 2], [], [], true⟩
noncomputable def F40 : AFunc := ⟨codeOf Try.f40, .leaf, [71], [.cell 2 23], [], [], true⟩
noncomputable def F25 : AFunc := ⟨codeOf Try.f25, (.seq none .leaf (.seq none (.reg [9, 10] []) (.seq none (.reg [12] []) (.seq none .leaf (.seq none .leaf (.seq none .leaf (.seq none .leaf (.seq none (.seq none .leaf (.sub (.loop [(2, false), (5, false), (6, false), (7, false), (8, false)] (.seq none .leaf (.seq none (.sub (.reg [37, 40] [])) .leaf))))) (.seq none .leaf (.seq none (.seq none .leaf (.cond (.seq none (.reg [51] []) .leaf) .leaf)) (.seq none (.reg [54] []) .leaf))))))))))), [36], [.cell 2 30, .tmp 3, .tmp 4], [], [0], true⟩
noncomputable def F44 : AFunc := ⟨codeOf Try.f44, (.seq none (.reg [4] []) (.seq none (.reg [7] []) (.seq none .leaf (.seq none (.seq none .leaf (.sub (.loop [(0, false), (1, false), (7, true), (8, false), (9, false)] (.seq none .leaf (.seq none (.sub (.seq none .leaf (.seq none (.seq none .leaf (.cond (.seq none (.reg [4] []) .leaf) .leaf)) (.seq none (.reg [7, 29] []) .leaf)))) .leaf))))) (.seq none (.reg [4, 36] []) .leaf))))), [36, 3], [.tmp 4, .tmp 5, .tmp 6], [], [0], true⟩
noncomputable def F45 : AFunc := ⟨codeOf Try.f45, .leaf, [36], [.cell 2 23, .tmp 3, .tmp 4], [], [], true⟩
noncomputable def F27 : AFunc := ⟨codeOf Try.f27, (.seq none .leaf (.seq none .leaf (.seq none (.seq none .leaf (.cond (.seq none (.reg [22] []) .leaf) .leaf)) (.seq none (.seq none .leaf (.cond (.seq none (.reg [28] []) .leaf) .leaf)) (.seq none (.reg [38] []) (.seq none (.seq none .leaf (.sub (.loop [(0, false), (2, false), (5, false), (6, false), (8, false), (9, false)] (.seq none .leaf (.seq none (.sub (.seq none .leaf (.seq none (.seq none .leaf (.cond (.seq none (.reg [56] []) .leaf) .leaf)) (.seq none (.reg [59, 62] []) .leaf)))) .leaf))))) (.seq none (.seq none .leaf (.seq none .leaf (.cond (.seq none (.reg [71] []) .leaf) .leaf))) (.seq none (.reg [73] []) .leaf)))))))), [36], [.cell 2 30, .tmp 3, .tmp 4], [], [0], true⟩
noncomputable def F48 : AFunc := ⟨codeOf Try.f48, .leaf, [3, 3], [.tmp 4], [], [], true⟩
noncomputable def F46 : AFunc := ⟨codeOf Try.f46, (.seq none .leaf (.seq none .leaf (.seq none (.seq none .leaf (.sub (.loop [(1, false), (2, false), (7, false), (8, false)] .leaf))) .leaf))), [3, 3, 3], [.tmp 6], [], [], true⟩
noncomputable def F64 : AFunc := ⟨codeOf Try.f64, .leaf, [3], [.tmp 2], [], [], true⟩
noncomputable def F60 : AFunc := ⟨codeOf Try.f60, .leaf, [3, 4], [.cell 4 23], [], [], true⟩
noncomputable def F47 : AFunc := ⟨codeOf Try.f47, (.seq none .leaf (.seq none (.reg [11] []) (.seq none (.seq none .leaf (.cond (.seq none .leaf (.seq none (.reg [20] []) (.seq none (.reg [22] []) .leaf))) .leaf)) (.seq none (.seq none .leaf (.sub (.loop [(2, false), (6, false), (7, false), (8, false)] (.seq none .leaf (.seq none (.sub (.reg [30, 38] [])) .leaf))))) (.seq none (.reg [40] []) .leaf))))), [3, 3, 3], [.cell 6 30], [], [0], true⟩
noncomputable def F28 : AFunc := ⟨codeOf Try.f28, (.seq none (.reg [2] []) (.seq none (.reg [3] []) (.seq none (.seq none .leaf (.sub (.loop [(0, false), (3, true), (4, false)] (.seq none .leaf (.seq none (.sub (.seq none .leaf (.seq none .leaf (.sub (.loop [(0, false), (3, true), (4, false), (5, false), (6, false)] (.seq none .leaf (.seq none (.sub (.seq none .leaf (.cond (.seq none .leaf (.reg [3, 34] [])) .leaf))) .leaf))))))) .leaf))))) (.seq none (.reg [2, 47] []) .leaf)))), [42], [.tmp 2], [], [0], true⟩
noncomputable def F7 : AFunc := ⟨codeOf Try.f7, (.seq none (.reg [2] []) (.seq none .leaf (.seq none .leaf (.seq none (.reg [25, 32] []) .leaf)))), [30, 36], [.tmp 4], [], [], true⟩
noncomputable def F8 : AFunc := ⟨codeOf Try.f8, (.seq none .leaf (.seq none .leaf (.seq none (.reg [13, 16] []) (.seq none (.reg [19, 22] []) .leaf)))), [36], [.tmp 2], [], [], true⟩
noncomputable def F9 : AFunc := ⟨codeOf Try.f9, (.seq none .leaf (.seq none .leaf (.seq none .leaf (.seq none (.seq none .leaf (.sub (.loop [(1, false), (5, false), (6, false), (7, false)] .leaf))) (.seq none .leaf (.seq none (.seq none .leaf (.sub (.loop [(1, false), (5, false), (6, false), (8, false), (9, false)] (.seq none .leaf (.seq none (.sub (.seq none (.reg [36, 41] []) (.seq none .leaf (.seq none (.seq none (.reg [67, 78] []) .leaf) .leaf)))) .leaf))))) .leaf)))))), [42, 43], [.tmp 4], [], [], true⟩
noncomputable def fnTab : List (Nat × (Sig × FnDef)) := [
  (9, (⟨[.one (.bool)], []⟩, .code F9)),
  (8, (⟨[.one (.bool)], []⟩, .code F8)),
  (7, (⟨[.one (.bool)], []⟩, .code F7)),
  (28, (⟨[.one (.sl true 30)], []⟩, .code F28)),
  (47, (⟨[.agg [.int .i64, .int .i64, .int .i64, .sl true 23]], []⟩, .code F47)),
  (60, (⟨[.agg [.int .i64, .str, .str, .int .i64, .str]], []⟩, .code F60)),
  (64, (⟨[.one (.str)], []⟩, .code F64)),
  (46, (⟨[.one (.int .i64)], []⟩, .code F46)),
  (48, (⟨[.one (.int .i64)], []⟩, .code F48)),
  (27, (⟨[.agg [.int .i64, .int .i64, .int .i64, .sl true 23], .one (.int .i64), .one (.int .i64)], []⟩, .code F27)),
  (45, (⟨[.agg [.int .i64, .str, .str, .int .i64, .str], .one (.int .i64), .one (.int .i64)], []⟩, .code F45)),
  (44, (⟨[.one (.sl true 3), .one (.int .i64), .one (.int .i64)], []⟩, .code F44)),
  (25, (⟨[.agg [.int .i64, .int .i64, .int .i64, .sl true 23], .one (.int .i64), .one (.int .i64)], []⟩, .code F25)),
  (40, (⟨[.agg [.int .i64, .str, .str, .int .i64, .str]], [[.sl false 5, .int .i64, .int .i64]]⟩, .code F40)),
  (54, (⟨[.one (.int .i64)], [[.sl false 5, .int .i64, .int .i64]]⟩, .code F54)),
  (53, (⟨[.one (.str)], [[.sl false 5, .int .i64, .int .i64]]⟩, .code F53)),
  (39, (⟨[.one (.int .i64)], [[.sl false 5, .int .i64, .int .i64]]⟩, .code F39)),
  (52, (⟨[], [[.sl false 5, .int .i64, .int .i64]]⟩, .code F52)),
  (57, (⟨[.one (.int .i64), .one (.int .i64), .one (.int .i64)], []⟩, .code F57)),
  (58, (⟨[.one (.str), .one (.int .i64), .one (.int .i64)], []⟩, .code F58)),
  (61, (⟨[.one (.str), .one (.int .i64), .one (.int .i64)], []⟩, .code F61)),
  (59, (⟨[.one (.int .i64), .one (.int .i64), .one (.int .i64)], []⟩, .code F59)),
  (62, (⟨[.one (.int .i64), .one (.int .i64), .one (.int .i64)], []⟩, .code F62)),
  (63, (⟨[.one (.int .u64), .one (.int .i64), .one (.int .i64)], []⟩, .code F63)),
  (51, (⟨[.one (.int .u64), .one (.int .i64), .one (.int .i64)], []⟩, .code F51)),
  (26, (⟨[.one (.sl false 5)], []⟩, .code F26)),
  (41, (⟨[.one (.sl false 5)], []⟩, .code F41)),
  (24, (⟨[.one (.sl true 5)], []⟩, .code F24)),
  (43, (⟨[.one (.sl true 5)], []⟩, .code F43)),
  (38, (⟨[.one (.sl true 5)], []⟩, .code F38)),
  (56, (⟨[.one (.int .u64)], []⟩, .code F56)),
  (42, (⟨[.one (.sl true 5)], []⟩, .code F42)),
  (37, (⟨[.one (.sl true 5)], []⟩, .code F37)),
  (55, (⟨[.one (.sl true 5)], []⟩, .code F55)),
  (36, (⟨[.one (.sl true 5)], []⟩, .code F36)),
  (6, (⟨[.one (.bool)], []⟩, .code F6)),
  (5, (⟨[.one (.bool)], []⟩, .code F5)),
  (4, (⟨[.one (.bool)], []⟩, .code F4)),
  (3, (⟨[.one (.bool)], []⟩, .code F3)),
  (10, (⟨[.one (.bool)], []⟩, .code F10)),
  (13, (⟨[.one (.bool)], []⟩, .code F13)),
  (23, (⟨[.one (.bool)], []⟩, .code F23)),
  (22, (⟨[.one (.bool)], []⟩, .code F22)),
  (35, (⟨[.one (.bool)], []⟩, .code F35)),
  (21, (⟨[.one (.bool)], []⟩, .code F21)),
  (20, (⟨[.one (.bool)], []⟩, .code F20)),
  (19, (⟨[.one (.int .i64)], []⟩, .code F19)),
  (18, (⟨[.one (.int .i64)], []⟩, .code F18)),
  (33, (⟨[.one (.int .i64)], []⟩, .code F33)),
  (34, (⟨[.one (.int .i64)], []⟩, .code F34)),
  (50, (⟨[.one (.bool)], []⟩, .code F50)),
  (15, (⟨[.one (.int .i64)], []⟩, .code F15)),
  (14, (⟨[.one (.int .i64)], []⟩, .code F14)),
  (17, (⟨[.one (.bool)], []⟩, .code F17)),
  (16, (⟨[.one (.bool)], []⟩, .code F16)),
  (31, (⟨[.one (.bool)], []⟩, .code F31)),
  (49, (⟨[.one (.int .i64)], []⟩, .code F49)),
  (32, (⟨[.one (.bool)], []⟩, .code F32)),
  (12, (⟨[.one (.int .i64)], []⟩, .code F12)),
  (11, (⟨[.one (.int .i64)], []⟩, .code F11)),
  (29, (⟨[.one (.bool)], []⟩, .prim prim29)),
  (30, (⟨[.one (.bool)], []⟩, .code F30))]
noncomputable def E : Env := ⟨lookT tyTab, lookT fnTab⟩
def s30 : Go.Abs.Spec := fun args blk => match args, blk with
  | [.one (.int .i64 n)], [] => (true, ([.one (.bool (isClient n))], []))
  | _, _ => (false, ([], []))
def s29 : Go.Abs.Spec := fun args blk => match args, blk with
  | [.one (.str s)], [] => (true, ([.one (.bool (s.isEmpty))], []))
  | _, _ => (false, ([], []))
def s11 : Go.Abs.Spec := fun args blk => match args, blk with
  | [.agg [.int .i64 k1, .str o1, .str f1, .int .i64 n1, .str s1]], [] => (true, ([.one (.int .i64 (vEff k1 o1 f1 n1 s1))], []))
  | _, _ => (false, ([], []))
def s12 : Go.Abs.Spec := fun args blk => match args, blk with
  | [.agg [.int .i64 k1, .str o1, .str f1, .int .i64 n1, .str s1]], [] => (true, ([.one (.int .i64 (vEff k1 o1 f1 n1 s1))], []))
  | _, _ => (false, ([], []))
def s32 : Go.Abs.Spec := fun args blk => match args, blk with
  | [.agg [.int .i64 k1, .str o1, .str f1, .int .i64 n1, .str s1]], [] => (true, ([.one (.bool (k1 == 1))], []))
  | _, _ => (false, ([], []))
def s49 : Go.Abs.Spec := fun args blk => match args, blk with
  | [.one (.sl false 23 l), .one (.fn 32 [])], [] => ((decide (l.length < 4611686018427387904)), ([.one (.int .i64 (idxW l))], []))
  | _, _ => (false, ([], []))
def s31 : Go.Abs.Spec := fun args blk => match args, blk with
  | [.one (.sl false 23 l), .one (.fn 32 [])], [] => ((decide (l.length < 4611686018427387904)), ([.one (.bool (!(comm l)))], []))
  | _, _ => (false, ([], []))
def s16 : Go.Abs.Spec := fun args blk => match args, blk with
  | [.agg [.int .i64 cu, .int .i64 qu, .int .i64 tu, .sl false 23 eu]], [] => ((decide (eu.length < 4611686018427387904)), ([.one (.bool (comm eu))], []))
  | _, _ => (false, ([], []))
def s17 : Go.Abs.Spec := fun args blk => match args, blk with
  | [.agg [.int .i64 cu, .int .i64 qu, .int .i64 tu, .sl false 23 eu]], [] => ((decide (eu.length < 4611686018427387904)), ([.one (.bool (comm eu))], []))
  | _, _ => (false, ([], []))
def s14 : Go.Abs.Spec := fun args blk => match args, blk with
  | [.agg [.int .i64 cu, .int .i64 qu, .int .i64 tu, .sl false 23 eu]], [] => (true, ([.one (.int .i64 (vUpd cu qu tu eu))], []))
  | _, _ => (false, ([], []))
def s15 : Go.Abs.Spec := fun args blk => match args, blk with
  | [.agg [.int .i64 cu, .int .i64 qu, .int .i64 tu, .sl false 23 eu]], [] => (true, ([.one (.int .i64 (vUpd cu qu tu eu))], []))
  | _, _ => (false, ([], []))
def s50 : Go.Abs.Spec := fun args blk => match args, blk with
  | [.one (.int .i64 n)], [] => (true, ([.one (.bool false)], []))
  | _, _ => (false, ([], []))
def s34 : Go.Abs.Spec := fun args blk => match args, blk with
  | [.one (.int .i64 x), .one (.int .i64 y)], [] => (true, ([.one (.int .i64 (cmpI x y))], []))
  | _, _ => (false, ([], []))
def s33 : Go.Abs.Spec := fun args blk => match args, blk with
  | [.one (.sl false 3 l)], [] => ((decide (l.length < 4611686018427387904)), ([.one (.int .i64 (orI1 l))], []))
  | _, _ => (false, ([], []))
def s18 : Go.Abs.Spec := fun args blk => match args, blk with
  | [.agg [.int .i64 cu, .int .i64 qu, .int .i64 tu, .sl false 23 eu], .agg [.int .i64 cv, .int .i64 qv, .int .i64 tv, .sl false 23 ev]], [] => (true, ([.one (.int .i64 (cmpU cu qu cv qv))], []))
  | _, _ => (false, ([], []))
def s19 : Go.Abs.Spec := fun args blk => match args, blk with
  | [.agg [.int .i64 cu, .int .i64 qu, .int .i64 tu, .sl false 23 eu], .agg [.int .i64 cv, .int .i64 qv, .int .i64 tv, .sl false 23 ev]], [] => (true, ([.one (.int .i64 (cmpU cu qu cv qv))], []))
  | _, _ => (false, ([], []))
def s20 : Go.Abs.Spec := fun args blk => match args, blk with
  | [.agg [.int .i64 cu, .int .i64 qu, .int .i64 tu, .sl false 23 eu], .agg [.int .i64 cv, .int .i64 qv, .int .i64 tv, .sl false 23 ev]], [] => (true, ([.one (.bool (befU tu cu qu tv cv qv))], []))
  | _, _ => (false, ([], []))
def s21 : Go.Abs.Spec := fun args blk => match args, blk with
  | [.agg [.int .i64 cu, .int .i64 qu, .int .i64 tu, .sl false 23 eu], .agg [.int .i64 cv, .int .i64 qv, .int .i64 tv, .sl false 23 ev]], [] => (true, ([.one (.bool (befU tu cu qu tv cv qv))], []))
  | _, _ => (false, ([], []))
def s35 : Go.Abs.Spec := fun args blk => match args, blk with
  | [.one (.sl false 23 x), .one (.sl false 23 y)], [] => ((decide (x.length < 4611686018427387904)), ([.one (.bool (eqEffs x y))], []))
  | _, _ => (false, ([], []))
def s22 : Go.Abs.Spec := fun args blk => match args, blk with
  | [.agg [.int .i64 cu, .int .i64 qu, .int .i64 tu, .sl false 23 eu], .agg [.int .i64 cv, .int .i64 qv, .int .i64 tv, .sl false 23 ev]], [] => ((decide (eu.length < 4611686018427387904)), ([.one (.bool (eqU cu qu tu eu cv qv tv ev))], []))
  | _, _ => (false, ([], []))
def s23 : Go.Abs.Spec := fun args blk => match args, blk with
  | [.agg [.int .i64 cu, .int .i64 qu, .int .i64 tu, .sl false 23 eu], .agg [.int .i64 cv, .int .i64 qv, .int .i64 tv, .sl false 23 ev]], [] => ((decide (eu.length < 4611686018427387904)), ([.one (.bool (eqU cu qu tu eu cv qv tv ev))], []))
  | _, _ => (false, ([], []))
def s13 : Go.Abs.Spec := fun args blk => match args, blk with
  | [.agg [.int .i64 cu, .int .i64 qu, .int .i64 tu, .sl false 23 eu]], [] => (true, ([.one (.bool (decide (eu.length ≤ 60)))], []))
  | _, _ => (false, ([], []))
def s10 : Go.Abs.Spec := fun args blk => match args, blk with
  | [], [] => (true, ([.one (.bool true)], []))
  | _, _ => (false, ([], []))
def s3 : Go.Abs.Spec := fun args blk => match args, blk with
  | [.agg [.int .i64 k1, .str o1, .str f1, .int .i64 n1, .str s1]], [] => (true, ([.one (.bool true)], []))
  | _, _ => (false, ([], []))
def s4 : Go.Abs.Spec := fun args blk => match args, blk with
  | [.agg [.int .i64 cu, .int .i64 qu, .int .i64 tu, .sl false 23 eu]], [] => (true, ([.one (.bool true)], []))
  | _, _ => (false, ([], []))
def s5 : Go.Abs.Spec := fun args blk => match args, blk with
  | [.agg [.int .i64 cu, .int .i64 qu, .int .i64 tu, .sl false 23 eu], .agg [.int .i64 cv, .int .i64 qv, .int .i64 tv, .sl false 23 ev], .agg [.int .i64 cw, .int .i64 qw, .int .i64 tw, .sl false 23 ew]], [] => (true, ([.one (.bool true)], []))
  | _, _ => (false, ([], []))
def s6 : Go.Abs.Spec := fun args blk => match args, blk with
  | [.agg [.int .i64 cu, .int .i64 qu, .int .i64 tu, .sl false 23 eu], .agg [.int .i64 cv, .int .i64 qv, .int .i64 tv, .sl false 23 ev]], [] => (true, ([.one (.bool true)], []))
  | _, _ => (false, ([], []))
def s36 : Go.Abs.Spec := fun args blk => match args, blk with
  | [.one (.sl false 5 x), .one (.int .u64 v)], [] => ((okEnc x v), ([.one (.sl true 5 (x ++ uenc v))], []))
  | _, _ => (false, ([], []))
def s55 : Go.Abs.Spec := fun args blk => match args, blk with
  | [.one (.sl false 5 x), .one (.int .u64 v)], [] => ((okEnc x v), ([.one (.sl true 5 (x ++ uenc v))], []))
  | _, _ => (false, ([], []))
def s37 : Go.Abs.Spec := fun args blk => match args, blk with
  | [.one (.sl false 5 x), .one (.str s)], [] => ((okStr x s), ([.one (.sl true 5 (x ++ senc s))], []))
  | _, _ => (false, ([], []))
def s42 : Go.Abs.Spec := fun args blk => match args, blk with
  | [.one (.sl false 5 x), .one (.str s)], [] => ((okStr x s), ([.one (.sl true 5 (x ++ senc s))], []))
  | _, _ => (false, ([], []))
def s56 : Go.Abs.Spec := fun args blk => match args, blk with
  | [.one (.int .i64 v)], [] => ((okI v), ([.one (.int .u64 (zig v))], []))
  | _, _ => (false, ([], []))
def s38 : Go.Abs.Spec := fun args blk => match args, blk with
  | [.one (.sl false 5 x), .one (.int .i64 v)], [] => ((okLen x && okI v), ([.one (.sl true 5 (x ++ uenc (zig v)))], []))
  | _, _ => (false, ([], []))
def s43 : Go.Abs.Spec := fun args blk => match args, blk with
  | [.one (.sl false 5 x), .one (.int .i64 v)], [] => ((okLen x && okI v), ([.one (.sl true 5 (x ++ uenc (zig v)))], []))
  | _, _ => (false, ([], []))
def s24 : Go.Abs.Spec := fun args blk => match args, blk with
  | [.one (.sl false 5 x), .agg [.int .i64 cu, .int .i64 qu, .int .i64 tu, .sl false 23 eu]], [] => ((okApp x eu), ([.one (.sl true 5 (x ++ encU cu qu tu eu))], []))
  | [.one (.nils), .agg [.int .i64 cu, .int .i64 qu, .int .i64 tu, .sl false 23 eu]], [] => ((okApp [] eu), ([.one (.sl true 5 (encU cu qu tu eu))], []))
  | _, _ => (false, ([], []))
def s41 : Go.Abs.Spec := fun args blk => match args, blk with
  | [.one (.sl false 5 x), .one (.sl false 3 l)], [] => ((okNums x l), ([.one (.sl false 5 (x ++ encL l))], []))
  | _, _ => (false, ([], []))
def s26 : Go.Abs.Spec := fun args blk => match args, blk with
  | [.one (.sl false 5 x), .agg [.int .i64 cu, .int .i64 qu, .int .i64 tu, .sl false 23 eu]], [] => ((okApp x eu), ([.one (.sl false 5 (x ++ encU cu qu tu eu))], []))
  | [.one (.nils), .agg [.int .i64 cu, .int .i64 qu, .int .i64 tu, .sl false 23 eu]], [] => ((okApp [] eu), ([.one (.sl false 5 (encU cu qu tu eu))], []))
  | _, _ => (false, ([], []))
def s51 : Go.Abs.Spec := fun args blk => match args, blk with
  | [.one (.sl false 5 x)], [] => ((okRd x), ([.one (.int .u64 (udec x).1), .one (.int .i64 (udec x).2.1), .one (.int .i64 (udec x).2.2)], []))
  | _, _ => (false, ([], []))
def s63 : Go.Abs.Spec := fun args blk => match args, blk with
  | [.one (.sl false 5 x)], [] => ((okRd x), ([.one (.int .u64 (udec x).1), .one (.int .i64 (udec x).2.1), .one (.int .i64 (udec x).2.2)], []))
  | _, _ => (false, ([], []))
def s62 : Go.Abs.Spec := fun args blk => match args, blk with
  | [.one (.sl false 5 x)], [] => ((okRd x), ([.one (.int .i64 (idec x).1), .one (.int .i64 (idec x).2.1), .one (.int .i64 (idec x).2.2)], []))
  | _, _ => (false, ([], []))
def s59 : Go.Abs.Spec := fun args blk => match args, blk with
  | [.one (.sl false 5 x)], [] => ((okRd x), ([.one (.int .i64 (idec x).1), .one (.int .i64 (idec x).2.1), .one (.int .i64 (idec x).2.2)], []))
  | _, _ => (false, ([], []))
def s61 : Go.Abs.Spec := fun args blk => match args, blk with
  | [.one (.sl false 5 x)], [] => ((okRd x), ([.one (.str (sdec x).1), .one (.int .i64 (sdec x).2.1), .one (.int .i64 (sdec x).2.2)], []))
  | _, _ => (false, ([], []))
def s58 : Go.Abs.Spec := fun args blk => match args, blk with
  | [.one (.sl false 5 x)], [] => ((okRd x), ([.one (.str (sdec x).1), .one (.int .i64 (sdec x).2.1), .one (.int .i64 (sdec x).2.2)], []))
  | _, _ => (false, ([], []))
def s57 : Go.Abs.Spec := fun args blk => match args, blk with
  | [.one (.sl false 5 x)], [] => ((okRd x), ([.one (.int .i64 (rnum2 x).1), .one (.int .i64 (rnum2 x).2.1), .one (.int .i64 (rnum2 x).2.2)], []))
  | _, _ => (false, ([], []))
def s52 : Go.Abs.Spec := fun args blk => match args, blk with
  | [.one (.ptr 0 0), .one (.int .i64 n), .one (.int .i64 z)], [.var [.sl false 5 b, .int .i64 o, .int .i64 e]] => ((okTake o n), ([], [.var [.sl false 5 b, .int .i64 (o + n), .int .i64 z]]))
  | _, _ => (false, ([], []))
def s39 : Go.Abs.Spec := fun args blk => match args, blk with
  | [.one (.ptr 0 0)], [.var [.sl false 5 b, .int .i64 o, .int .i64 e]] => ((okAt b o), ([.one (.int .i64 (rnum b o e).1)], [.var [.sl false 5 b, .int .i64 (rnum b o e).2.1, .int .i64 (rnum b o e).2.2]]))
  | _, _ => (false, ([], []))
def s53 : Go.Abs.Spec := fun args blk => match args, blk with
  | [.one (.ptr 0 0)], [.var [.sl false 5 b, .int .i64 o, .int .i64 e]] => ((okAt b o), ([.one (.str (rtext b o e).1)], [.var [.sl false 5 b, .int .i64 (rtext b o e).2.1, .int .i64 (rtext b o e).2.2]]))
  | _, _ => (false, ([], []))
def s54 : Go.Abs.Spec := fun args blk => match args, blk with
  | [.one (.ptr 0 0)], [.var [.sl false 5 b, .int .i64 o, .int .i64 e]] => ((okAt b o), ([.one (.int .i64 (rint b o e).1)], [.var [.sl false 5 b, .int .i64 (rint b o e).2.1, .int .i64 (rint b o e).2.2]]))
  | _, _ => (false, ([], []))
def s40 : Go.Abs.Spec := fun args blk => match args, blk with
  | [.one (.ptr 0 0)], [.var [.sl false 5 b, .int .i64 o, .int .i64 e]] => ((okAt b o), ([.agg [.int .i64 (reff b o e).1.1, .str (reff b o e).1.2.1, .str (reff b o e).1.2.2.1, .int .i64 (reff b o e).1.2.2.2.1, .str (reff b o e).1.2.2.2.2]], [.var [.sl false 5 b, .int .i64 (reff b o e).2.1, .int .i64 (reff b o e).2.2]]))
  | _, _ => (false, ([], []))
def s25 : Go.Abs.Spec := fun args blk => match args, blk with
  | [.one (.sl false 5 x)], [] => ((okRd x), ([.agg [.int .i64 (decU x).1, .int .i64 (decU x).2.1, .int .i64 (decU x).2.2.1, .sl true 23 (decU x).2.2.2.1], .one (.int .i64 (decU x).2.2.2.2.1), .one (.int .i64 (decU x).2.2.2.2.2)], []))
  | _, _ => (false, ([], []))
def s44 : Go.Abs.Spec := fun args blk => match args, blk with
  | [.one (.sl false 5 x), .one (.int .i64 c)], [] => ((okRd x && decide (c ≤ 1000)), ([.one (.sl true 3 (rread x c).1), .one (.int .i64 (rread x c).2.1), .one (.int .i64 (rread x c).2.2)], []))
  | _, _ => (false, ([], []))
def s45 : Go.Abs.Spec := fun args blk => match args, blk with
  | [.one (.sl false 5 x)], [] => ((okRd x), ([.agg [.int .i64 (deff x).1.1, .str (deff x).1.2.1, .str (deff x).1.2.2.1, .int .i64 (deff x).1.2.2.2.1, .str (deff x).1.2.2.2.2], .one (.int .i64 (deff x).2.1), .one (.int .i64 (deff x).2.2)], []))
  | _, _ => (false, ([], []))
def s27 : Go.Abs.Spec := fun args blk => match args, blk with
  | [.one (.sl false 5 x)], [] => ((okRd x), ([.agg [.int .i64 (decU x).1, .int .i64 (decU x).2.1, .int .i64 (decU x).2.2.1, .sl true 23 (decU x).2.2.2.1], .one (.int .i64 (decU x).2.2.2.2.1), .one (.int .i64 (decU x).2.2.2.2.2)], []))
  | _, _ => (false, ([], []))
def s48 : Go.Abs.Spec := fun args blk => match args, blk with
  | [.one (.int .i64 n), .one (.int .i64 k)], [] => ((decide (k ≤ 4611686018427387904)), ([.one (.int .i64 (gIndex n k))], []))
  | _, _ => (false, ([], []))
def s46 : Go.Abs.Spec := fun args blk => match args, blk with
  | [.one (.int .i64 n), .one (.int .i64 b), .one (.int .i64 j)], [] => ((decide (2 ≤ b) && decide (j ≤ 9223372036854775807)), ([.one (.int .i64 (gDigit n b j))], []))
  | _, _ => (false, ([], []))
def s64 : Go.Abs.Spec := fun args blk => match args, blk with
  | [.one (.int .i64 n)], [] => (true, ([.one (.str (gName n))], []))
  | _, _ => (false, ([], []))
def s60 : Go.Abs.Spec := fun args blk => match args, blk with
  | [.one (.int .i64 n), .one (.bool w)], [] => (true, ([.agg [.int .i64 (gEff n w).1, .str (gEff n w).2.1, .str (gEff n w).2.2.1, .int .i64 (gEff n w).2.2.2.1, .str (gEff n w).2.2.2.2]], []))
  | _, _ => (false, ([], []))
def s47 : Go.Abs.Spec := fun args blk => match args, blk with
  | [.one (.int .i64 c), .one (.int .i64 q), .one (.int .i64 n)], [] => (true, ([.agg [.int .i64 c, .int .i64 q, .int .i64 (gTag n), .sl true 23 (gEffs n)]], []))
  | _, _ => (false, ([], []))
def s28 : Go.Abs.Spec := fun args blk => match args, blk with
  | [.one (.sl false 3 l)], [] => ((decide (l.length < 4611686018427387904)), ([.one (.sl true 30 (gUpds l))], []))
  | _, _ => (false, ([], []))
def s7 : Go.Abs.Spec := fun args blk => match args, blk with
  | [.agg [.int .i64 cu, .int .i64 qu, .int .i64 tu, .sl false 23 eu], .one (.sl false 5 x)], [] => ((okB x && eu.all (fun e => okI (nr e 3))), ([.one (.bool true)], []))
  | _, _ => (false, ([], []))
def s8 : Go.Abs.Spec := fun args blk => match args, blk with
  | [.one (.sl false 5 x)], [] => ((okB x), ([.one (.bool true)], []))
  | _, _ => (false, ([], []))
def s9 : Go.Abs.Spec := fun args blk => match args, blk with
  | [.one (.sl false 3 l), .one (.int .u16 cut)], [] => ((decide (l.length < 4611686018427387904) && (decide (0 ≤ cut) && decide (cut ≤ 65535))), ([.one (.bool true)], []))
  | _, _ => (false, ([], []))
def L : List (Nat × Go.Abs.Spec) := []
def L30 : List (Nat × Go.Abs.Spec) := (30, s30) :: L
def L29 : List (Nat × Go.Abs.Spec) := (29, s29) :: L30
def L11 : List (Nat × Go.Abs.Spec) := (11, s11) :: L29
def L12 : List (Nat × Go.Abs.Spec) := (12, s12) :: L11
def L32 : List (Nat × Go.Abs.Spec) := (32, s32) :: L12
def L49 : List (Nat × Go.Abs.Spec) := (49, s49) :: L32
def L31 : List (Nat × Go.Abs.Spec) := (31, s31) :: L49
def L16 : List (Nat × Go.Abs.Spec) := (16, s16) :: L31
def L17 : List (Nat × Go.Abs.Spec) := (17, s17) :: L16
def L14 : List (Nat × Go.Abs.Spec) := (14, s14) :: L17
def L15 : List (Nat × Go.Abs.Spec) := (15, s15) :: L14
def L50 : List (Nat × Go.Abs.Spec) := (50, s50) :: L15
def L34 : List (Nat × Go.Abs.Spec) := (34, s34) :: L50
def L33 : List (Nat × Go.Abs.Spec) := (33, s33) :: L34
def L18 : List (Nat × Go.Abs.Spec) := (18, s18) :: L33
def L19 : List (Nat × Go.Abs.Spec) := (19, s19) :: L18
def L20 : List (Nat × Go.Abs.Spec) := (20, s20) :: L19
def L21 : List (Nat × Go.Abs.Spec) := (21, s21) :: L20
def L35 : List (Nat × Go.Abs.Spec) := (35, s35) :: L21
def L22 : List (Nat × Go.Abs.Spec) := (22, s22) :: L35
def L23 : List (Nat × Go.Abs.Spec) := (23, s23) :: L22
def L13 : List (Nat × Go.Abs.Spec) := (13, s13) :: L23
def L10 : List (Nat × Go.Abs.Spec) := (10, s10) :: L13
def L3 : List (Nat × Go.Abs.Spec) := (3, s3) :: L10
def L4 : List (Nat × Go.Abs.Spec) := (4, s4) :: L3
def L5 : List (Nat × Go.Abs.Spec) := (5, s5) :: L4
def L6 : List (Nat × Go.Abs.Spec) := (6, s6) :: L5
def L36 : List (Nat × Go.Abs.Spec) := (36, s36) :: L6
def L55 : List (Nat × Go.Abs.Spec) := (55, s55) :: L36
def L37 : List (Nat × Go.Abs.Spec) := (37, s37) :: L55
def L42 : List (Nat × Go.Abs.Spec) := (42, s42) :: L37
def L56 : List (Nat × Go.Abs.Spec) := (56, s56) :: L42
def L38 : List (Nat × Go.Abs.Spec) := (38, s38) :: L56
def L43 : List (Nat × Go.Abs.Spec) := (43, s43) :: L38
def L24 : List (Nat × Go.Abs.Spec) := (24, s24) :: L43
def L41 : List (Nat × Go.Abs.Spec) := (41, s41) :: L24
def L26 : List (Nat × Go.Abs.Spec) := (26, s26) :: L41
def L51 : List (Nat × Go.Abs.Spec) := (51, s51) :: L26
def L63 : List (Nat × Go.Abs.Spec) := (63, s63) :: L51
def L62 : List (Nat × Go.Abs.Spec) := (62, s62) :: L63
def L59 : List (Nat × Go.Abs.Spec) := (59, s59) :: L62
def L61 : List (Nat × Go.Abs.Spec) := (61, s61) :: L59
def L58 : List (Nat × Go.Abs.Spec) := (58, s58) :: L61
def L57 : List (Nat × Go.Abs.Spec) := (57, s57) :: L58
def L52 : List (Nat × Go.Abs.Spec) := (52, s52) :: L57
def L39 : List (Nat × Go.Abs.Spec) := (39, s39) :: L52
def L53 : List (Nat × Go.Abs.Spec) := (53, s53) :: L39
def L54 : List (Nat × Go.Abs.Spec) := (54, s54) :: L53
def L40 : List (Nat × Go.Abs.Spec) := (40, s40) :: L54
def L25 : List (Nat × Go.Abs.Spec) := (25, s25) :: L40
def L44 : List (Nat × Go.Abs.Spec) := (44, s44) :: L25
def L45 : List (Nat × Go.Abs.Spec) := (45, s45) :: L44
def L27 : List (Nat × Go.Abs.Spec) := (27, s27) :: L45
def L48 : List (Nat × Go.Abs.Spec) := (48, s48) :: L27
def L46 : List (Nat × Go.Abs.Spec) := (46, s46) :: L48
def L64 : List (Nat × Go.Abs.Spec) := (64, s64) :: L46
def L60 : List (Nat × Go.Abs.Spec) := (60, s60) :: L64
def L47 : List (Nat × Go.Abs.Spec) := (47, s47) :: L60
def L28 : List (Nat × Go.Abs.Spec) := (28, s28) :: L47
def L7 : List (Nat × Go.Abs.Spec) := (7, s7) :: L28
def L8 : List (Nat × Go.Abs.Spec) := (8, s8) :: L7
def L9 : List (Nat × Go.Abs.Spec) := (9, s9) :: L8

end Go.Proofs.Yteogaajjkcfeeaa
