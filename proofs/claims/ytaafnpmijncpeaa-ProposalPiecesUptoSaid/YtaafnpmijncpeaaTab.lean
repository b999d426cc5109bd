/-
  The tables of this seat: types, functions with their notes, contracts. Printed by a program of our own.
-/
import Derived.Test.YtaafnpmijncpeaaA28
import Derived.Test.YtaafnpmijncpeaaDefs
import Derived.Test.YtaafnpmijncpeaaProg
namespace Go.Proofs.Ytaafnpmijncpeaa
open Go.Abs

def tyTab : List (Nat × Ty) := [
  (3, ⟨.int .i64, 1, 8, [.int .i64], false⟩),
  (4, ⟨.bool, 1, 1, [.bool], false⟩),
  (5, ⟨.int .u8, 1, 1, [.int .u8], false⟩),
  (9, ⟨.str, 1, 16, [.str], false⟩),
  (23, ⟨.struct [(0, 3), (1, 3), (2, 3)], 3, 24, [.int .i64, .int .i64, .int .i64], true⟩),
  (25, ⟨.struct [(0, 3), (1, 3), (2, 3), (3, 3), (4, 23)], 7, 56, [.int .i64, .int .i64, .int .i64, .int .i64, .int .i64, .int .i64, .int .i64], true⟩),
  (26, ⟨.int .i64, 1, 8, [.int .i64], false⟩),
  (30, ⟨.slice 25, 1, 24, [.slice 25], false⟩),
  (32, ⟨.struct [(0, 3), (1, 3), (2, 30)], 3, 40, [.int .i64, .int .i64, .slice 25], false⟩),
  (38, ⟨.slice 5, 1, 24, [.slice 5], false⟩),
  (44, ⟨.slice 3, 1, 24, [.slice 3], false⟩),
  (45, ⟨.int .u16, 1, 2, [.int .u16], false⟩),
  (47, ⟨.slice 32, 1, 24, [.slice 32], false⟩),
  (57, ⟨.int .u64, 1, 8, [.int .u64], false⟩),
  (59, ⟨.struct [(0, 38), (1, 3), (2, 26)], 3, 40, [.slice 5, .int .i64, .int .i64], false⟩),
  (61, ⟨.ptr 3, 1, 8, [.ptr], false⟩),
  (62, ⟨.slice 61, 1, 24, [.slice 61], false⟩),
  (69, ⟨.int .u64, 1, 8, [.int .u64], false⟩),
  (70, ⟨.ptr 59, 1, 8, [.ptr], false⟩)]

noncomputable def codeOf (f : Func) : Code := match f.body with | some c => c | none => .skip
noncomputable def F24 : AFunc := ⟨codeOf Try.f24, .leaf, [3, 3, 3, 4], [.tmp 8], [], [], true⟩
noncomputable def F25 : AFunc := ⟨codeOf Try.f25, .leaf, [23], [.tmp 2], [], [], true⟩
noncomputable def F26 : AFunc := ⟨codeOf Try.f26, .leaf, [3], [.tmp 2], [], [], true⟩
noncomputable def F28 : AFunc := ⟨codeOf Try.f28, .leaf, [3], [.tmp 2], [], [], true⟩
noncomputable def F27 : AFunc := ⟨codeOf Try.f27, .leaf, [23], [.tmp 2], [], [], true⟩
noncomputable def F10 : AFunc := ⟨codeOf Try.f10, .leaf, [25], [.tmp 2], [], [], true⟩
noncomputable def F11 : AFunc := ⟨codeOf Try.f11, (.seq none .leaf (.seq none .leaf (.seq (some []) (.sub (.seq (some [(1, false), (3, false), (4, false), (5, false), (6, false), (19, false)]) .leaf (.cond .leaf (.seq (some [(1, false), (3, false), (4, false), (5, false), (6, false), (34, false)]) .leaf (.cond .leaf (.seq (some [(1, false), (3, false), (4, false), (5, false), (6, false), (51, false)]) .leaf (.cond .leaf (.seq (some [(1, false), (6, false), (77, false)]) .leaf .leaf)))))))) .leaf))), [25], [.tmp 2], [], [], true⟩
noncomputable def F13 : AFunc := ⟨codeOf Try.f13, (.seq none (.reg [1] []) (.seq none .leaf (.seq none (.seq none .leaf (.sub (.loop [(1, true), (38, false), (39, false), (40, false)] (.seq none .leaf (.seq none .leaf (.seq none (.sub (.seq none .leaf (.seq none .leaf (.seq none .leaf (.sub (.loop [(1, true), (4, false), (38, false), (39, false), (40, false), (53, false), (54, false), (55, false)] .leaf)))))) .leaf)))))) .leaf))), [32], [.tmp 2], [], [], true⟩
noncomputable def F14 : AFunc := ⟨codeOf Try.f14, (.seq none (.reg [1] []) (.seq (some [(1, true)]) (.sub (.seq (some [(1, true), (6, false)]) .leaf .leaf)) (.seq (some []) (.seq none .leaf (.sub (.loop [(1, true), (3, false)] (.seq (some [(1, true), (3, false)]) .leaf (.seq (some [(1, true), (3, false)]) (.sub (.seq (some [(1, true), (3, false)]) .leaf (.seq none .leaf (.sub (.loop [(1, true), (3, false), (5, false)] (.seq (some [(1, true), (3, false), (5, false)]) .leaf (.seq (some [(1, true), (3, false), (5, false)]) (.sub (.seq (some [(1, true), (3, false), (5, false), (79, false)]) .leaf .leaf)) .leaf))))))) .leaf))))) .leaf))), [32], [.tmp 2], [], [], true⟩
noncomputable def F39 : AFunc := ⟨codeOf Try.f39, .leaf, [3], [.tmp 2], [], [], true⟩
noncomputable def F30 : AFunc := ⟨codeOf Try.f30, .leaf, [3, 3], [.tmp 4], [], [], true⟩
noncomputable def F29 : AFunc := ⟨codeOf Try.f29, (.seq none .leaf (.seq none .leaf (.seq none (.seq none .leaf (.sub (.loop [(3, false), (6, false), (7, false), (8, false)] .leaf))) .leaf))), [44], [.tmp 2], [], [], true⟩
noncomputable def F15 : AFunc := ⟨codeOf Try.f15, (.seq none (.reg [2, 3] []) .leaf), [32, 32], [.tmp 4], [], [], true⟩
noncomputable def F16 : AFunc := ⟨codeOf Try.f16, (.seq none (.reg [2, 3] []) .leaf), [32, 32], [.tmp 4], [], [], true⟩
noncomputable def F31 : AFunc := ⟨codeOf Try.f31, .leaf, [25, 25], [.tmp 4], [], [], true⟩
noncomputable def F17 : AFunc := ⟨codeOf Try.f17, (.seq none (.reg [2, 3] []) (.seq none .leaf (.seq none (.seq none .leaf (.sub (.loop [(3, true), (29, false), (30, false), (31, false)] .leaf))) .leaf))), [32, 32], [.tmp 4], [], [], true⟩
noncomputable def F18 : AFunc := ⟨codeOf Try.f18, (.seq none (.reg [2, 3] []) (.seq none .leaf (.seq none (.seq none .leaf (.sub (.loop [(2, true), (3, true), (5, false)] .leaf))) .leaf))), [32, 32], [.tmp 4], [], [], true⟩
noncomputable def F12 : AFunc := ⟨codeOf Try.f12, (.seq none .leaf (.seq none (.reg [8, 9] []) (.seq none .leaf (.seq none (.reg [12, 15] []) .leaf)))), [], [.tmp 0], [], [], true⟩
noncomputable def F3 : AFunc := ⟨codeOf Try.f3, .leaf, [25], [.tmp 2], [], [], true⟩
noncomputable def F4 : AFunc := ⟨codeOf Try.f4, (.seq none (.reg [1] []) .leaf), [32], [.tmp 2], [], [], true⟩
noncomputable def F5 : AFunc := ⟨codeOf Try.f5, (.seq none (.reg [3, 4, 5] []) .leaf), [32, 32, 32], [.tmp 6], [], [], true⟩
noncomputable def F6 : AFunc := ⟨codeOf Try.f6, (.seq none (.reg [2, 3] []) .leaf), [32, 32], [.tmp 4], [], [], true⟩
noncomputable def F32 : AFunc := ⟨codeOf Try.f32, (.seq none (.reg [4] []) (.seq none (.reg [5] []) (.seq none (.sub (.loop [(0, true), (1, false), (5, true)] (.seq none .leaf (.sub (.seq none (.reg [5, 8] []) .leaf))))) (.seq none (.reg [5, 16] []) (.seq none (.reg [4, 21, 26] []) .leaf))))), [38, 57], [.tmp 4], [], [0], true⟩
noncomputable def F41 : AFunc := ⟨codeOf Try.f41, (.seq none (.reg [4] []) (.seq none (.reg [5] []) (.seq none (.sub (.loop [(1, false), (5, true)] (.seq none .leaf (.sub (.seq none (.reg [5, 11] []) .leaf))))) (.seq none (.reg [4, 20] []) .leaf)))), [38, 57], [.tmp 4], [], [0], true⟩
noncomputable def F40 : AFunc := ⟨codeOf Try.f40, (.seq none .leaf (.scope [(0, false), (5, false), (6, false)] .leaf .leaf)), [38], [.tmp 2, .tmp 3, .tmp 4], [], [], true⟩
noncomputable def F45 : AFunc := ⟨codeOf Try.f45, (.seq none .leaf (.seq none .leaf (.seq none (.seq none .leaf (.sub (.loop [(0, false), (5, false), (6, false)] .leaf))) .leaf))), [38], [.tmp 2, .tmp 3, .tmp 4], [], [], true⟩
noncomputable def F33 : AFunc := ⟨codeOf Try.f33, .leaf, [70], [.tmp 2], [], [], true⟩
noncomputable def F19 : AFunc := ⟨codeOf Try.f19, (.seq none (.reg [3, 4] []) (.seq none (.reg [5] []) (.seq none (.seq none .leaf (.sub (.loop [(0, true), (5, true), (20, false), (21, false), (22, false)] (.seq none .leaf (.seq none .leaf (.seq none (.sub (.seq none .leaf (.reg [5, 26] []))) .leaf)))))) (.seq none .leaf (.seq none (.seq none .leaf (.sub (.loop [(0, true), (8, false), (47, false), (48, false), (49, false)] .leaf))) (.seq none (.reg [4, 58, 63] []) .leaf)))))), [38, 32], [.tmp 4], [], [0], true⟩
noncomputable def F20 : AFunc := ⟨codeOf Try.f20, (.seq none .leaf (.seq none (.reg [12, 13] []) (.seq none (.reg [15] []) (.seq none .leaf (.seq none .leaf (.seq none .leaf (.seq none (.seq none .leaf (.sub (.loop [(2, false), (5, false), (6, false), (7, false), (8, false)] (.seq none .leaf (.seq none (.sub (.seq none .leaf (.seq none .leaf (.reg [58, 61] [])))) .leaf))))) (.seq none .leaf (.seq none (.seq none .leaf (.cond (.seq none (.reg [72] []) .leaf) .leaf)) (.seq none (.reg [75] []) .leaf)))))))))), [38], [.cell 2 32, .tmp 3, .tmp 4], [], [0], true⟩
noncomputable def F42 : AFunc := ⟨codeOf Try.f42, .leaf, [38], [.tmp 2, .tmp 3, .tmp 4], [], [], true⟩
noncomputable def F35 : AFunc := ⟨codeOf Try.f35, (.seq none (.reg [4] []) (.seq none (.reg [7] []) (.seq none .leaf (.seq none (.seq none .leaf (.sub (.loop [(0, false), (1, false), (7, true), (8, false), (9, false)] (.seq none .leaf (.seq none (.sub (.seq none .leaf (.seq none (.seq none .leaf (.cond (.seq none (.reg [4] []) .leaf) .leaf)) (.seq none (.reg [7, 29] []) .leaf)))) .leaf))))) (.seq none (.reg [4, 36] []) .leaf))))), [38, 3], [.tmp 4, .tmp 5, .tmp 6], [], [0], true⟩
noncomputable def F34 : AFunc := ⟨codeOf Try.f34, (.seq none (.reg [4] []) (.seq none (.seq none .leaf (.sub (.loop [(0, false), (1, false), (5, false)] (.seq none .leaf (.seq none (.sub (.reg [0] [])) .leaf))))) (.seq none (.reg [4, 19] []) .leaf))), [38, 44], [.tmp 4], [], [], true⟩
noncomputable def F21 : AFunc := ⟨codeOf Try.f21, (.seq none (.reg [3, 4] []) (.seq none (.reg [0] []) (.seq none (.seq none .leaf (.sub (.loop [(0, true), (3, true), (5, false)] (.seq none .leaf (.seq none (.sub (.seq none .leaf (.reg [0] []))) .leaf))))) (.seq none (.reg [4, 49] []) .leaf)))), [38, 32], [.tmp 4], [], [], true⟩
noncomputable def F22 : AFunc := ⟨codeOf Try.f22, (.seq none .leaf (.seq none .leaf (.seq none (.seq none .leaf (.cond (.seq none (.reg [22] []) .leaf) .leaf)) (.seq none (.seq none .leaf (.cond (.seq none (.reg [28] []) .leaf) .leaf)) (.seq none (.reg [35] []) (.seq none (.seq none .leaf (.sub (.loop [(0, false), (2, false), (5, false), (6, false), (8, false), (9, false)] (.seq none .leaf (.seq none (.sub (.seq none .leaf (.seq none (.seq none .leaf (.cond (.seq none (.reg [53] []) .leaf) .leaf)) (.seq none (.reg [56, 81] []) .leaf)))) .leaf))))) (.seq none (.seq none .leaf (.seq none .leaf (.cond (.seq none (.reg [90] []) .leaf) .leaf))) (.seq none (.reg [92] []) .leaf)))))))), [38], [.cell 2 32, .tmp 3, .tmp 4], [], [0], true⟩
noncomputable def F43 : AFunc := ⟨codeOf Try.f43, .leaf, [3, 3], [.tmp 4], [], [], true⟩
noncomputable def F36 : AFunc := ⟨codeOf Try.f36, (.seq none .leaf (.seq none .leaf (.seq none (.seq none .leaf (.sub (.loop [(1, false), (2, false), (7, false), (8, false)] .leaf))) .leaf))), [3, 3, 3], [.tmp 6], [], [], true⟩
noncomputable def F37 : AFunc := ⟨codeOf Try.f37, .leaf, [44, 3], [.tmp 4], [], [], true⟩
noncomputable def F44 : AFunc := ⟨codeOf Try.f44, .leaf, [3], [.cell 2 23], [], [], true⟩
noncomputable def F38 : AFunc := ⟨codeOf Try.f38, .leaf, [3], [.cell 2 25], [], [], true⟩
noncomputable def F23 : AFunc := ⟨codeOf Try.f23, (.seq none (.reg [2] []) (.seq none (.reg [3] []) (.seq none .leaf (.seq none (.seq none .leaf (.sub (.loop [(0, false), (3, true), (4, false), (5, false)] (.seq none .leaf (.seq none (.sub (.seq none .leaf (.sub (.loop [(0, false), (3, true), (4, false), (5, false), (6, false)] (.seq none .leaf (.seq none (.sub (.seq none (.reg [29, 30] []) (.seq none .leaf (.seq none (.seq none .leaf (.cond (.reg [62, 65] []) .leaf)) (.seq none (.reg [3, 67] []) .leaf))))) .leaf)))))) .leaf))))) (.seq none (.reg [2, 73] []) .leaf))))), [44], [.tmp 2], [], [0], true⟩
noncomputable def F7 : AFunc := ⟨codeOf Try.f7, (.seq none (.reg [2] []) (.seq none .leaf (.seq none .leaf (.seq none (.reg [26, 33] []) .leaf)))), [32, 38], [.tmp 4], [], [], true⟩
noncomputable def F8 : AFunc := ⟨codeOf Try.f8, (.seq none .leaf (.seq none .leaf (.seq none (.reg [13, 16] []) (.seq none (.reg [19, 22] []) .leaf)))), [38], [.tmp 2], [], [], true⟩
noncomputable def F9 : AFunc := ⟨codeOf Try.f9, (.seq none .leaf (.seq none .leaf (.seq none .leaf (.seq none (.seq none .leaf (.sub (.loop [(1, false), (5, false), (6, false), (7, false)] .leaf))) (.seq none .leaf (.seq none (.seq none .leaf (.sub (.loop [(1, false), (5, false), (6, false), (8, false), (9, false)] (.seq none .leaf (.seq none (.sub (.seq none (.reg [37, 42] []) (.seq none .leaf (.seq none .leaf (.seq none (.seq none (.reg [77, 80] []) .leaf) .leaf))))) .leaf))))) .leaf)))))), [44, 45], [.tmp 4], [], [], true⟩
noncomputable def fnTab : List (Nat × (Sig × FnDef)) := [
  (9, (⟨[.one (.bool)], []⟩, .code F9)),
  (8, (⟨[.one (.bool)], []⟩, .code F8)),
  (7, (⟨[.one (.bool)], []⟩, .code F7)),
  (23, (⟨[.one (.sl true 32)], []⟩, .code F23)),
  (38, (⟨[.agg [.int .i64, .int .i64, .int .i64, .int .i64, .int .i64, .int .i64, .int .i64]], []⟩, .code F38)),
  (44, (⟨[.agg [.int .i64, .int .i64, .int .i64]], []⟩, .code F44)),
  (37, (⟨[.one (.int .i64)], []⟩, .code F37)),
  (36, (⟨[.one (.int .i64)], []⟩, .code F36)),
  (43, (⟨[.one (.int .i64)], []⟩, .code F43)),
  (22, (⟨[.agg [.int .i64, .int .i64, .sl true 25], .one (.int .i64), .one (.int .i64)], []⟩, .code F22)),
  (21, (⟨[.one (.sl false 5)], []⟩, .code F21)),
  (34, (⟨[.one (.sl false 5)], []⟩, .code F34)),
  (35, (⟨[.one (.sl true 3), .one (.int .i64), .one (.int .i64)], []⟩, .code F35)),
  (42, (⟨[.one (.int .i64), .one (.int .i64), .one (.int .i64)], []⟩, .code F42)),
  (20, (⟨[.agg [.int .i64, .int .i64, .sl true 25], .one (.int .i64), .one (.int .i64)], []⟩, .code F20)),
  (19, (⟨[.one (.sl true 5)], []⟩, .code F19)),
  (33, (⟨[.one (.int .i64)], [[.sl false 5, .int .i64, .int .i64]]⟩, .code F33)),
  (45, (⟨[.one (.int .u64), .one (.int .i64), .one (.int .i64)], []⟩, .code F45)),
  (40, (⟨[.one (.int .u64), .one (.int .i64), .one (.int .i64)], []⟩, .code F40)),
  (41, (⟨[.one (.sl true 5)], []⟩, .code F41)),
  (32, (⟨[.one (.sl true 5)], []⟩, .code F32)),
  (6, (⟨[.one (.bool)], []⟩, .code F6)),
  (5, (⟨[.one (.bool)], []⟩, .code F5)),
  (4, (⟨[.one (.bool)], []⟩, .code F4)),
  (3, (⟨[.one (.bool)], []⟩, .code F3)),
  (12, (⟨[.one (.bool)], []⟩, .code F12)),
  (18, (⟨[.one (.bool)], []⟩, .code F18)),
  (17, (⟨[.one (.bool)], []⟩, .code F17)),
  (31, (⟨[.one (.bool)], []⟩, .code F31)),
  (16, (⟨[.one (.int .i64)], []⟩, .code F16)),
  (15, (⟨[.one (.int .i64)], []⟩, .code F15)),
  (29, (⟨[.one (.int .i64)], []⟩, .code F29)),
  (30, (⟨[.one (.int .i64)], []⟩, .code F30)),
  (39, (⟨[.one (.bool)], []⟩, .code F39)),
  (14, (⟨[.one (.int .i64)], []⟩, .code F14)),
  (13, (⟨[.one (.int .i64)], []⟩, .code F13)),
  (11, (⟨[.one (.int .i64)], []⟩, .code F11)),
  (10, (⟨[.one (.int .i64)], []⟩, .code F10)),
  (27, (⟨[.one (.int .i64)], []⟩, .code F27)),
  (28, (⟨[.one (.bool)], []⟩, .code F28)),
  (26, (⟨[.one (.bool)], []⟩, .code F26)),
  (25, (⟨[.one (.int .i64)], []⟩, .code F25)),
  (24, (⟨[.one (.bool)], []⟩, .code F24))]
noncomputable def E : Env := ⟨lookT tyTab, lookT fnTab⟩
def s24 : Go.Abs.Spec := fun args blk => match args, blk with
  | [.one (.int .i64 n), .one (.int .i64 lo), .one (.int .i64 hi), .one (.bool u)], [] => (true, ([.one (.bool (within n lo hi u))], []))
  | _, _ => (false, ([], []))
def s25 : Go.Abs.Spec := fun args blk => match args, blk with
  | [.agg [.int .i64 k, .int .i64 c, .int .i64 f]], [] => (true, ([.one (.int .i64 (vRule k c f))], []))
  | _, _ => (false, ([], []))
def s26 : Go.Abs.Spec := fun args blk => match args, blk with
  | [.one (.int .i64 n)], [] => (true, ([.one (.bool (isServer n))], []))
  | _, _ => (false, ([], []))
def s28 : Go.Abs.Spec := fun args blk => match args, blk with
  | [.one (.int .i64 n)], [] => (true, ([.one (.bool (isAdmin n))], []))
  | _, _ => (false, ([], []))
def s27 : Go.Abs.Spec := fun args blk => match args, blk with
  | [.agg [.int .i64 k, .int .i64 c, .int .i64 f]], [] => (true, ([.one (.int .i64 (vRule k c f))], []))
  | _, _ => (false, ([], []))
def s10 : Go.Abs.Spec := fun args blk => match args, blk with
  | [.agg [.int .i64 k, .int .i64 s, .int .i64 w, .int .i64 v, .int .i64 rk, .int .i64 rc, .int .i64 rf]], [] => (true, ([.one (.int .i64 (vChange k s w v rk rc rf))], []))
  | _, _ => (false, ([], []))
def s11 : Go.Abs.Spec := fun args blk => match args, blk with
  | [.agg [.int .i64 k, .int .i64 s, .int .i64 w, .int .i64 v, .int .i64 rk, .int .i64 rc, .int .i64 rf]], [] => (true, ([.one (.int .i64 (vChange k s w v rk rc rf))], []))
  | _, _ => (false, ([], []))
def s13 : Go.Abs.Spec := fun args blk => match args, blk with
  | [.agg [.int .i64 ap, .int .i64 np, .sl false 25 cp]], [] => ((decide (cp.length < 4611686018427387904)), ([.one (.int .i64 (vProp ap np cp))], []))
  | _, _ => (false, ([], []))
def s14 : Go.Abs.Spec := fun args blk => match args, blk with
  | [.agg [.int .i64 ap, .int .i64 np, .sl false 25 cp]], [] => ((decide (cp.length < 4611686018427387904)), ([.one (.int .i64 (vProp ap np cp))], []))
  | _, _ => (false, ([], []))
def s39 : Go.Abs.Spec := fun args blk => match args, blk with
  | [.one (.int .i64 n)], [] => (true, ([.one (.bool false)], []))
  | _, _ => (false, ([], []))
def s30 : Go.Abs.Spec := fun args blk => match args, blk with
  | [.one (.int .i64 x), .one (.int .i64 y)], [] => (true, ([.one (.int .i64 (cmpI x y))], []))
  | _, _ => (false, ([], []))
def s29 : Go.Abs.Spec := fun args blk => match args, blk with
  | [.one (.sl false 3 l)], [] => ((decide (l.length < 4611686018427387904)), ([.one (.int .i64 (orI1 l))], []))
  | _, _ => (false, ([], []))
def s15 : Go.Abs.Spec := fun args blk => match args, blk with
  | [.agg [.int .i64 ap, .int .i64 np, .sl false 25 cp], .agg [.int .i64 aq, .int .i64 nq, .sl false 25 cq]], [] => (true, ([.one (.int .i64 (cmpP ap np aq nq))], []))
  | _, _ => (false, ([], []))
def s16 : Go.Abs.Spec := fun args blk => match args, blk with
  | [.agg [.int .i64 ap, .int .i64 np, .sl false 25 cp], .agg [.int .i64 aq, .int .i64 nq, .sl false 25 cq]], [] => (true, ([.one (.int .i64 (cmpP ap np aq nq))], []))
  | _, _ => (false, ([], []))
def s31 : Go.Abs.Spec := fun args blk => match args, blk with
  | [.agg [.int .i64 k1, .int .i64 s1, .int .i64 w1, .int .i64 v1, .int .i64 rk1, .int .i64 rc1, .int .i64 rf1], .agg [.int .i64 k2, .int .i64 s2, .int .i64 w2, .int .i64 v2, .int .i64 rk2, .int .i64 rc2, .int .i64 rf2]], [] => (true, ([.one (.bool (eqCh k1 s1 w1 v1 rk1 rc1 rf1 k2 s2 w2 v2 rk2 rc2 rf2))], []))
  | _, _ => (false, ([], []))
def s17 : Go.Abs.Spec := fun args blk => match args, blk with
  | [.agg [.int .i64 ap, .int .i64 np, .sl false 25 cp], .agg [.int .i64 aq, .int .i64 nq, .sl false 25 cq]], [] => ((decide (cp.length < 4611686018427387904)), ([.one (.bool (eqP ap np cp aq nq cq))], []))
  | _, _ => (false, ([], []))
def s18 : Go.Abs.Spec := fun args blk => match args, blk with
  | [.agg [.int .i64 ap, .int .i64 np, .sl false 25 cp], .agg [.int .i64 aq, .int .i64 nq, .sl false 25 cq]], [] => ((decide (cp.length < 4611686018427387904)), ([.one (.bool (eqP ap np cp aq nq cq))], []))
  | _, _ => (false, ([], []))
def s12 : Go.Abs.Spec := fun args blk => match args, blk with
  | [], [] => (true, ([.one (.bool true)], []))
  | _, _ => (false, ([], []))
def s3 : Go.Abs.Spec := fun args blk => match args, blk with
  | [.agg [.int .i64 k, .int .i64 s, .int .i64 w, .int .i64 v, .int .i64 rk, .int .i64 rc, .int .i64 rf]], [] => (true, ([.one (.bool true)], []))
  | _, _ => (false, ([], []))
def s4 : Go.Abs.Spec := fun args blk => match args, blk with
  | [.agg [.int .i64 ap, .int .i64 np, .sl false 25 cp]], [] => (true, ([.one (.bool true)], []))
  | _, _ => (false, ([], []))
def s5 : Go.Abs.Spec := fun args blk => match args, blk with
  | [.agg [.int .i64 ap, .int .i64 np, .sl false 25 cp], .agg [.int .i64 aq, .int .i64 nq, .sl false 25 cq], .agg [.int .i64 ar, .int .i64 nr, .sl false 25 cr]], [] => (true, ([.one (.bool true)], []))
  | _, _ => (false, ([], []))
def s6 : Go.Abs.Spec := fun args blk => match args, blk with
  | [.agg [.int .i64 ap, .int .i64 np, .sl false 25 cp], .agg [.int .i64 aq, .int .i64 nq, .sl false 25 cq]], [] => (true, ([.one (.bool true)], []))
  | _, _ => (false, ([], []))
def s32 : Go.Abs.Spec := fun args blk => match args, blk with
  | [.one (.sl false 5 x), .one (.int .u64 v)], [] => ((okEnc x v), ([.one (.sl true 5 (x ++ uenc v))], []))
  | _, _ => (false, ([], []))
def s41 : Go.Abs.Spec := fun args blk => match args, blk with
  | [.one (.sl false 5 x), .one (.int .u64 v)], [] => ((okEnc x v), ([.one (.sl true 5 (x ++ uenc v))], []))
  | _, _ => (false, ([], []))
def s40 : Go.Abs.Spec := fun args blk => match args, blk with
  | [.one (.sl false 5 x)], [] => ((okRd x), ([.one (.int .u64 (udec x).1), .one (.int .i64 (udec x).2.1), .one (.int .i64 (udec x).2.2)], []))
  | _, _ => (false, ([], []))
def s45 : Go.Abs.Spec := fun args blk => match args, blk with
  | [.one (.sl false 5 x)], [] => ((okRd x), ([.one (.int .u64 (udec x).1), .one (.int .i64 (udec x).2.1), .one (.int .i64 (udec x).2.2)], []))
  | _, _ => (false, ([], []))
def s33 : Go.Abs.Spec := fun args blk => match args, blk with
  | [.one (.ptr 0 0)], [.var [.sl false 5 b, .int .i64 o, .int .i64 e]] => ((okAt b o), ([.one (.int .i64 (rnum b o e).1)], [.var [.sl false 5 b, .int .i64 (rnum b o e).2.1, .int .i64 (rnum b o e).2.2]]))
  | _, _ => (false, ([], []))
def s19 : Go.Abs.Spec := fun args blk => match args, blk with
  | [.one (.sl false 5 x), .agg [.int .i64 ap, .int .i64 np, .sl false 25 cp]], [] => ((okApp x cp), ([.one (.sl true 5 (x ++ encP ap np cp))], []))
  | [.one (.nils), .agg [.int .i64 ap, .int .i64 np, .sl false 25 cp]], [] => ((okApp [] cp), ([.one (.sl true 5 (encP ap np cp))], []))
  | _, _ => (false, ([], []))
def s20 : Go.Abs.Spec := fun args blk => match args, blk with
  | [.one (.sl false 5 x)], [] => ((okRd x), ([.agg [.int .i64 (decP x).1, .int .i64 (decP x).2.1, .sl true 25 (decP x).2.2.1], .one (.int .i64 (decP x).2.2.2.1), .one (.int .i64 (decP x).2.2.2.2)], []))
  | _, _ => (false, ([], []))
def s42 : Go.Abs.Spec := fun args blk => match args, blk with
  | [.one (.sl false 5 x)], [] => ((okRd x), ([.one (.int .i64 (rnum2 x).1), .one (.int .i64 (rnum2 x).2.1), .one (.int .i64 (rnum2 x).2.2)], []))
  | _, _ => (false, ([], []))
def s35 : Go.Abs.Spec := fun args blk => match args, blk with
  | [.one (.sl false 5 x), .one (.int .i64 c)], [] => ((okRd x && decide (c ≤ 1000)), ([.one (.sl true 3 (rread x c).1), .one (.int .i64 (rread x c).2.1), .one (.int .i64 (rread x c).2.2)], []))
  | _, _ => (false, ([], []))
def s34 : Go.Abs.Spec := fun args blk => match args, blk with
  | [.one (.sl false 5 x), .one (.sl false 3 l)], [] => ((okNums x l), ([.one (.sl false 5 (x ++ encL l))], []))
  | _, _ => (false, ([], []))
def s21 : Go.Abs.Spec := fun args blk => match args, blk with
  | [.one (.sl false 5 x), .agg [.int .i64 ap, .int .i64 np, .sl false 25 cp]], [] => ((okApp x cp), ([.one (.sl false 5 (x ++ encP ap np cp))], []))
  | [.one (.nils), .agg [.int .i64 ap, .int .i64 np, .sl false 25 cp]], [] => ((okApp [] cp), ([.one (.sl false 5 (encP ap np cp))], []))
  | _, _ => (false, ([], []))
def s22 : Go.Abs.Spec := fun args blk => match args, blk with
  | [.one (.sl false 5 x)], [] => ((okRd x), ([.agg [.int .i64 (decP x).1, .int .i64 (decP x).2.1, .sl true 25 (decP x).2.2.1], .one (.int .i64 (decP x).2.2.2.1), .one (.int .i64 (decP x).2.2.2.2)], []))
  | _, _ => (false, ([], []))
def s43 : Go.Abs.Spec := fun args blk => match args, blk with
  | [.one (.int .i64 n), .one (.int .i64 k)], [] => ((decide (k ≤ 4611686018427387904)), ([.one (.int .i64 (gIndex n k))], []))
  | _, _ => (false, ([], []))
def s36 : Go.Abs.Spec := fun args blk => match args, blk with
  | [.one (.int .i64 n), .one (.int .i64 b), .one (.int .i64 j)], [] => ((decide (2 ≤ b) && decide (j ≤ 9223372036854775807)), ([.one (.int .i64 (gDigit n b j))], []))
  | _, _ => (false, ([], []))
def s37 : Go.Abs.Spec := fun args blk => match args, blk with
  | [.one (.sl false 3 l), .one (.int .i64 j)], [] => ((decide (l.length < 4611686018427387904)), ([.one (.int .i64 (gAt l j))], []))
  | _, _ => (false, ([], []))
def s44 : Go.Abs.Spec := fun args blk => match args, blk with
  | [.one (.int .i64 n)], [] => (true, ([.agg [.int .i64 (gRule n).1, .int .i64 (gRule n).2.1, .int .i64 (gRule n).2.2]], []))
  | _, _ => (false, ([], []))
def s38 : Go.Abs.Spec := fun args blk => match args, blk with
  | [.one (.int .i64 n)], [] => (true, ([.agg [.int .i64 (gCh n 0), .int .i64 (gCh n 1), .int .i64 (gCh n 2), .int .i64 (gCh n 3), .int .i64 (gCh n 4), .int .i64 (gCh n 5), .int .i64 (gCh n 6)]], []))
  | _, _ => (false, ([], []))
def s23 : Go.Abs.Spec := fun args blk => match args, blk with
  | [.one (.sl false 3 l)], [] => ((decide (l.length < 4611686018427387904)), ([.one (.sl true 32 (gPool l))], []))
  | _, _ => (false, ([], []))
def s7 : Go.Abs.Spec := fun args blk => match args, blk with
  | [.agg [.int .i64 ap, .int .i64 np, .sl false 25 cp], .one (.sl false 5 x)], [] => ((okB x), ([.one (.bool true)], []))
  | _, _ => (false, ([], []))
def s8 : Go.Abs.Spec := fun args blk => match args, blk with
  | [.one (.sl false 5 x)], [] => ((okB x), ([.one (.bool true)], []))
  | _, _ => (false, ([], []))
def s9 : Go.Abs.Spec := fun args blk => match args, blk with
  | [.one (.sl false 3 l), .one (.int .u16 cut)], [] => ((decide (l.length < 4611686018427387904) && (decide (0 ≤ cut) && decide (cut ≤ 65535))), ([.one (.bool true)], []))
  | _, _ => (false, ([], []))
def L : List (Nat × Go.Abs.Spec) := []
def L24 : List (Nat × Go.Abs.Spec) := (24, s24) :: L
def L25 : List (Nat × Go.Abs.Spec) := (25, s25) :: L24
def L26 : List (Nat × Go.Abs.Spec) := (26, s26) :: L25
def L28 : List (Nat × Go.Abs.Spec) := (28, s28) :: L26
def L27 : List (Nat × Go.Abs.Spec) := (27, s27) :: L28
def L10 : List (Nat × Go.Abs.Spec) := (10, s10) :: L27
def L11 : List (Nat × Go.Abs.Spec) := (11, s11) :: L10
def L13 : List (Nat × Go.Abs.Spec) := (13, s13) :: L11
def L14 : List (Nat × Go.Abs.Spec) := (14, s14) :: L13
def L39 : List (Nat × Go.Abs.Spec) := (39, s39) :: L14
def L30 : List (Nat × Go.Abs.Spec) := (30, s30) :: L39
def L29 : List (Nat × Go.Abs.Spec) := (29, s29) :: L30
def L15 : List (Nat × Go.Abs.Spec) := (15, s15) :: L29
def L16 : List (Nat × Go.Abs.Spec) := (16, s16) :: L15
def L31 : List (Nat × Go.Abs.Spec) := (31, s31) :: L16
def L17 : List (Nat × Go.Abs.Spec) := (17, s17) :: L31
def L18 : List (Nat × Go.Abs.Spec) := (18, s18) :: L17
def L12 : List (Nat × Go.Abs.Spec) := (12, s12) :: L18
def L3 : List (Nat × Go.Abs.Spec) := (3, s3) :: L12
def L4 : List (Nat × Go.Abs.Spec) := (4, s4) :: L3
def L5 : List (Nat × Go.Abs.Spec) := (5, s5) :: L4
def L6 : List (Nat × Go.Abs.Spec) := (6, s6) :: L5
def L32 : List (Nat × Go.Abs.Spec) := (32, s32) :: L6
def L41 : List (Nat × Go.Abs.Spec) := (41, s41) :: L32
def L40 : List (Nat × Go.Abs.Spec) := (40, s40) :: L41
def L45 : List (Nat × Go.Abs.Spec) := (45, s45) :: L40
def L33 : List (Nat × Go.Abs.Spec) := (33, s33) :: L45
def L19 : List (Nat × Go.Abs.Spec) := (19, s19) :: L33
def L20 : List (Nat × Go.Abs.Spec) := (20, s20) :: L19
def L42 : List (Nat × Go.Abs.Spec) := (42, s42) :: L20
def L35 : List (Nat × Go.Abs.Spec) := (35, s35) :: L42
def L34 : List (Nat × Go.Abs.Spec) := (34, s34) :: L35
def L21 : List (Nat × Go.Abs.Spec) := (21, s21) :: L34
def L22 : List (Nat × Go.Abs.Spec) := (22, s22) :: L21
def L43 : List (Nat × Go.Abs.Spec) := (43, s43) :: L22
def L36 : List (Nat × Go.Abs.Spec) := (36, s36) :: L43
def L37 : List (Nat × Go.Abs.Spec) := (37, s37) :: L36
def L44 : List (Nat × Go.Abs.Spec) := (44, s44) :: L37
def L38 : List (Nat × Go.Abs.Spec) := (38, s38) :: L44
def L23 : List (Nat × Go.Abs.Spec) := (23, s23) :: L38
def L7 : List (Nat × Go.Abs.Spec) := (7, s7) :: L23
def L8 : List (Nat × Go.Abs.Spec) := (8, s8) :: L7
def L9 : List (Nat × Go.Abs.Spec) := (9, s9) :: L8

end Go.Proofs.Ytaafnpmijncpeaa
