/-
  Merged texts: Tab, Eq1, Eq2.
-/
import Derived.Test.YtejimgikldiajaaGreatZ3
import Derived.Test.YtejimgikldiajaaGreatProg

namespace Go.Proofs.YtejimgikldiajaaGreat

open Go.Abs

def tyTab : List (Nat × Ty) := [
  (2, ⟨.int .i64, 1, 8, [.int .i64], false⟩),
  (3, ⟨.int .i64, 1, 8, [.int .i64], false⟩),
  (4, ⟨.bool, 1, 1, [.bool], false⟩),
  (5, ⟨.int .u8, 1, 1, [.int .u8], false⟩),
  (9, ⟨.str, 1, 16, [.str], false⟩),
  (23, ⟨.struct [(0, 3), (1, 3)], 2, 16, [.int .i64, .int .i64], true⟩),
  (25, ⟨.slice 93, 1, 24, [.slice 93], false⟩),
  (27, ⟨.struct [(0, 25), (1, 25)], 2, 48, [.slice 93, .slice 93], false⟩),
  (28, ⟨.slice 96, 1, 24, [.slice 96], false⟩),
  (29, ⟨.slice 96, 1, 24, [.slice 96], false⟩),
  (31, ⟨.slice 103, 1, 24, [.slice 103], false⟩),
  (33, ⟨.struct [(0, 3), (1, 3), (2, 3), (3, 23), (5, 3), (6, 3), (7, 27), (9, 27), (11, 4), (12, 27), (14, 25), (15, 29), (16, 31), (17, 4)], 18, 288, [.int .i64, .int .i64, .int .i64, .int .i64, .int .i64, .int .i64, .int .i64, .slice 93, .slice 93, .slice 93, .slice 93, .bool, .slice 93, .slice 93, .slice 93, .slice 96, .slice 103, .bool], false⟩),
  (36, ⟨.int .i64, 1, 8, [.int .i64], false⟩),
  (38, ⟨.slice 5, 1, 24, [.slice 5], false⟩),
  (43, ⟨.slice 3, 1, 24, [.slice 3], false⟩),
  (50, ⟨.slice 54, 1, 24, [.slice 54], false⟩),
  (54, ⟨.int .i64, 1, 8, [.int .i64], false⟩),
  (61, ⟨.ptr 63, 1, 8, [.ptr], false⟩),
  (63, ⟨.struct [(0, 38), (1, 3), (2, 36)], 3, 40, [.slice 5, .int .i64, .int .i64], false⟩),
  (67, ⟨.ptr 33, 1, 8, [.ptr], false⟩),
  (87, ⟨.struct [(0, 3), (1, 3), (2, 3)], 3, 24, [.int .i64, .int .i64, .int .i64], true⟩),
  (89, ⟨.struct [(0, 3), (1, 3), (2, 3), (3, 3), (4, 87)], 7, 56, [.int .i64, .int .i64, .int .i64, .int .i64, .int .i64, .int .i64, .int .i64], true⟩),
  (91, ⟨.slice 89, 1, 24, [.slice 89], false⟩),
  (93, ⟨.struct [(0, 3), (1, 3), (2, 91)], 3, 40, [.int .i64, .int .i64, .slice 89], false⟩),
  (94, ⟨.slice 136, 1, 24, [.slice 136], false⟩),
  (96, ⟨.struct [(0, 3), (1, 3), (2, 3), (3, 94)], 4, 48, [.int .i64, .int .i64, .int .i64, .slice 136], false⟩),
  (103, ⟨.struct [(0, 3), (1, 3)], 2, 16, [.int .i64, .int .i64], true⟩),
  (109, ⟨.struct [(0, 4), (1, 4), (2, 4), (3, 4), (4, 4), (5, 4), (6, 4), (7, 4), (8, 4)], 9, 9, [.bool, .bool, .bool, .bool, .bool, .bool, .bool, .bool, .bool], false⟩),
  (113, ⟨.int .u64, 1, 8, [.int .u64], false⟩),
  (136, ⟨.struct [(0, 3), (1, 9), (2, 9), (3, 2), (4, 9)], 5, 64, [.int .i64, .str, .str, .int .i64, .str], true⟩),
  (148, ⟨.slice 25, 1, 24, [.slice 25], false⟩),
  (155, ⟨.ptr 25, 1, 8, [.ptr], false⟩),
  (156, ⟨.slice 155, 1, 24, [.slice 155], false⟩),
  (157, ⟨.int .u64, 1, 8, [.int .u64], false⟩),
  (168, ⟨.struct [(0, 38), (1, 3), (2, 36)], 3, 40, [.slice 5, .int .i64, .int .i64], false⟩),
  (169, ⟨.ptr 3, 1, 8, [.ptr], false⟩),
  (170, ⟨.slice 169, 1, 24, [.slice 169], false⟩),
  (172, ⟨.struct [(0, 38), (1, 3), (2, 36)], 3, 40, [.slice 5, .int .i64, .int .i64], false⟩),
  (176, ⟨.slice 9, 1, 24, [.slice 9], false⟩),
  (181, ⟨.ptr 168, 1, 8, [.ptr], false⟩),
  (182, ⟨.ptr 172, 1, 8, [.ptr], false⟩)]

noncomputable def codeOf (f : Func) : Code := match f.body with | some c => c | none => .skip

noncomputable def F138 : AFunc := ⟨codeOf Tryz.f138, .leaf, [3, 3, 3, 4], [.tmp 8], [], [], true⟩

noncomputable def F139 : AFunc := ⟨codeOf Tryz.f139, .leaf, [87], [.tmp 2], [], [], true⟩

noncomputable def F65 : AFunc := ⟨codeOf Tryz.f65, .leaf, [3], [.tmp 2], [], [], true⟩

noncomputable def F67 : AFunc := ⟨codeOf Tryz.f67, .leaf, [3], [.tmp 2], [], [], true⟩

noncomputable def F145 : AFunc := ⟨codeOf Tryz.f145, .leaf, [87], [.tmp 2], [], [], true⟩

noncomputable def F125 : AFunc := ⟨codeOf Tryz.f125, .leaf, [89], [.tmp 2], [], [], true⟩

noncomputable def F133 : AFunc := ⟨codeOf Tryz.f133, (.seq none .leaf (.seq none .leaf (.seq (some []) (.sub (.seq (some [(1, false), (3, false), (4, false), (5, false), (6, false), (19, false)]) .leaf (.cond .leaf (.seq (some [(1, false), (3, false), (4, false), (5, false), (6, false), (34, false)]) .leaf (.cond .leaf (.seq (some [(1, false), (3, false), (4, false), (5, false), (6, false), (51, false)]) .leaf (.cond .leaf (.seq (some [(1, false), (6, false), (77, false)]) .leaf .leaf)))))))) .leaf))), [89], [.tmp 2], [], [], true⟩

noncomputable def F107 : AFunc := ⟨codeOf Tryz.f107, (.seq none (.reg [1] []) (.seq none .leaf (.seq none (.seq none .leaf (.sub (.loop [(1, true), (38, false), (39, false), (40, false)] (.seq none .leaf (.seq none .leaf (.seq none (.sub (.seq none .leaf (.seq none .leaf (.seq none .leaf (.sub (.loop [(1, true), (4, false), (38, false), (39, false), (40, false), (53, false), (54, false), (55, false)] .leaf)))))) .leaf)))))) .leaf))), [93], [.tmp 2], [], [], true⟩

noncomputable def F112 : AFunc := ⟨codeOf Tryz.f112, (.seq none (.reg [1] []) (.seq (some [(1, true)]) (.sub (.seq (some [(1, true), (6, false)]) .leaf .leaf)) (.seq (some []) (.seq none .leaf (.sub (.loop [(1, true), (3, false)] (.seq (some [(1, true), (3, false)]) .leaf (.seq (some [(1, true), (3, false)]) (.sub (.seq (some [(1, true), (3, false)]) .leaf (.seq none .leaf (.sub (.loop [(1, true), (3, false), (5, false)] (.seq (some [(1, true), (3, false), (5, false)]) .leaf (.seq (some [(1, true), (3, false), (5, false)]) (.sub (.seq (some [(1, true), (3, false), (5, false), (79, false)]) .leaf .leaf)) .leaf))))))) .leaf))))) .leaf))), [93], [.tmp 2], [], [], true⟩

noncomputable def F140 : AFunc := ⟨codeOf Tryz.f140, .leaf, [3], [.tmp 2], [], [], true⟩

noncomputable def F127 : AFunc := ⟨codeOf Tryz.f127, .leaf, [3, 3], [.tmp 4], [], [], true⟩

noncomputable def F126 : AFunc := ⟨codeOf Tryz.f126, (.seq none .leaf (.seq none .leaf (.seq none (.seq none .leaf (.sub (.loop [(3, false), (6, false), (7, false), (8, false)] .leaf))) .leaf))), [43], [.tmp 2], [], [], true⟩

noncomputable def F108 : AFunc := ⟨codeOf Tryz.f108, (.seq none (.reg [2, 3] []) .leaf), [93, 93], [.tmp 4], [], [], true⟩

noncomputable def F113 : AFunc := ⟨codeOf Tryz.f113, (.seq none (.reg [2, 3] []) .leaf), [93, 93], [.tmp 4], [], [], true⟩

noncomputable def F91 : AFunc := ⟨codeOf Tryz.f91, (.seq none (.reg [2, 3] []) (.seq none .leaf (.seq none (.seq none .leaf (.sub (.loop [(2, true), (3, true), (5, false)] .leaf))) .leaf))), [93, 93], [.tmp 4], [], [], true⟩

noncomputable def F76 : AFunc := ⟨codeOf Tryz.f76, (.seq none .leaf (.scope [(0, false), (5, false), (6, false)] .leaf .leaf)), [38], [.tmp 2, .tmp 3, .tmp 4], [], [], true⟩

noncomputable def F85 : AFunc := ⟨codeOf Tryz.f85, (.seq none .leaf (.seq none .leaf (.seq none (.seq none .leaf (.sub (.loop [(0, false), (5, false), (6, false)] .leaf))) .leaf))), [38], [.tmp 2, .tmp 3, .tmp 4], [], [], true⟩

noncomputable def F134 : AFunc := ⟨codeOf Tryz.f134, .leaf, [181], [.tmp 2], [], [], true⟩

noncomputable def F116 : AFunc := ⟨codeOf Tryz.f116, (.seq none .leaf (.seq none (.reg [12, 13] []) (.seq none (.reg [15] []) (.seq none .leaf (.seq none .leaf (.seq none .leaf (.seq none (.seq none .leaf (.sub (.loop [(2, false), (5, false), (6, false), (7, false), (8, false)] (.seq none .leaf (.seq none (.sub (.seq none .leaf (.seq none .leaf (.reg [58, 61] [])))) .leaf))))) (.seq none .leaf (.seq none (.seq none .leaf (.cond (.seq none (.reg [72] []) .leaf) .leaf)) (.seq none (.reg [75] []) .leaf)))))))))), [38], [.cell 2 93, .tmp 3, .tmp 4], [], [0], true⟩

noncomputable def F33 : AFunc := ⟨codeOf Tryz.f33, .leaf, [38], [.tmp 2, .tmp 3, .tmp 4], [], [], true⟩

noncomputable def F34 : AFunc := ⟨codeOf Tryz.f34, (.seq none (.reg [4] []) (.seq none (.reg [7] []) (.seq none .leaf (.seq none (.seq none .leaf (.sub (.loop [(0, false), (1, false), (7, true), (8, false), (9, false)] (.seq none .leaf (.seq none (.sub (.seq none .leaf (.seq none (.seq none .leaf (.cond (.seq none (.reg [4] []) .leaf) .leaf)) (.seq none (.reg [7, 29] []) .leaf)))) .leaf))))) (.seq none (.reg [4, 36] []) .leaf))))), [38, 3], [.tmp 4, .tmp 5, .tmp 6], [], [0], true⟩

noncomputable def F119 : AFunc := ⟨codeOf Tryz.f119, (.seq none .leaf (.seq none .leaf (.seq none (.seq none .leaf (.cond (.seq none (.reg [22] []) .leaf) .leaf)) (.seq none (.seq none .leaf (.cond (.seq none (.reg [28] []) .leaf) .leaf)) (.seq none (.reg [35] []) (.seq none (.seq none .leaf (.sub (.loop [(0, false), (2, false), (5, false), (6, false), (8, false), (9, false)] (.seq none .leaf (.seq none (.sub (.seq none .leaf (.seq none (.seq none .leaf (.cond (.seq none (.reg [53] []) .leaf) .leaf)) (.seq none (.reg [56, 81] []) .leaf)))) .leaf))))) (.seq none (.seq none .leaf (.seq none .leaf (.cond (.seq none (.reg [90] []) .leaf) .leaf))) (.seq none (.reg [92] []) .leaf)))))))), [38], [.cell 2 93, .tmp 3, .tmp 4], [], [0], true⟩

noncomputable def F61 : AFunc := ⟨codeOf Tryz.f61, (.seq none .leaf (.seq none (.seq none .leaf (.sub (.loop [(0, false), (6, false), (7, false), (8, false)] (.seq none .leaf (.seq none .leaf (.seq none (.sub (.seq none (.reg [12] []) .leaf)) .leaf)))))) .leaf)), [25], [.tmp 2], [], [], true⟩

noncomputable def F70 : AFunc := ⟨codeOf Tryz.f70, (.seq none .leaf (.seq none (.seq none .leaf (.sub (.loop [(0, false), (3, false)] .leaf))) .leaf)), [25], [.tmp 2], [], [], true⟩

noncomputable def F38 : AFunc := ⟨codeOf Tryz.f38, (.seq none .leaf (.seq none .leaf (.seq none (.seq none .leaf (.sub (.loop [(0, false), (1, false), (5, false)] .leaf))) .leaf))), [25, 25], [.tmp 4], [], [], true⟩

noncomputable def F78 : AFunc := ⟨codeOf Tryz.f78, (.seq none (.reg [2] []) (.seq none .leaf (.seq none (.seq none .leaf (.cond (.seq none (.reg [2] []) .leaf) .leaf)) (.seq none (.seq none .leaf (.cond (.seq none (.reg [2] []) .leaf) .leaf)) (.seq none (.reg [8] []) (.seq none (.seq none .leaf (.sub (.loop [(0, false), (6, false), (8, true), (24, false), (25, false)] (.seq none .leaf (.seq none .leaf (.seq none (.sub (.seq none (.reg [27, 32] []) (.seq none (.seq none .leaf (.cond (.seq none (.reg [2] []) .leaf) .leaf)) (.seq none (.reg [8, 38] []) .leaf)))) .leaf)))))) (.seq none (.seq none .leaf (.seq none .leaf (.cond (.seq none (.reg [2] []) .leaf) .leaf))) (.seq none (.reg [2, 51] []) .leaf)))))))), [38], [.tmp 2, .tmp 3, .tmp 4], [], [0], true⟩

noncomputable def F86 : AFunc := ⟨codeOf Tryz.f86, (.seq none (.reg [2] []) (.seq none .leaf (.seq none (.seq none .leaf (.cond (.seq none (.reg [2] []) .leaf) .leaf)) (.seq none (.seq none .leaf (.cond (.seq none (.reg [2] []) .leaf) .leaf)) (.seq none (.reg [8] []) (.seq none (.seq none .leaf (.sub (.loop [(0, false), (5, false), (6, false), (8, true), (9, false)] (.seq none .leaf (.seq none (.sub (.seq none (.reg [31, 36] []) (.seq none (.seq none .leaf (.cond (.seq none (.reg [2] []) .leaf) .leaf)) (.seq none (.reg [8, 42] []) .leaf)))) .leaf))))) (.seq none (.seq none .leaf (.seq none .leaf (.cond (.seq none (.reg [2] []) .leaf) .leaf))) (.seq none (.reg [2, 54] []) .leaf)))))))), [38], [.tmp 2, .tmp 3, .tmp 4], [], [0], true⟩

noncomputable def F40 : AFunc := ⟨codeOf Tryz.f40, (.seq none .leaf (.seq none .leaf (.seq none (.seq none .leaf (.sub (.loop [(0, false), (1, false), (5, false)] .leaf))) .leaf))), [31, 31], [.tmp 4], [], [], true⟩

noncomputable def F27 : AFunc := ⟨codeOf Tryz.f27, (.seq none .leaf (.seq none (.seq none .leaf (.sub (.loop [(0, false), (3, false)] .leaf))) .leaf)), [31], [.tmp 2], [], [], true⟩

noncomputable def F144 : AFunc := ⟨codeOf Tryz.f144, .leaf, [89, 89], [.tmp 4], [], [], true⟩

noncomputable def F132 : AFunc := ⟨codeOf Tryz.f132, (.seq none (.reg [2, 3] []) (.seq none .leaf (.seq none (.seq none .leaf (.sub (.loop [(3, true), (29, false), (30, false), (31, false)] .leaf))) .leaf))), [93, 93], [.tmp 4], [], [], true⟩

noncomputable def F131 : AFunc := ⟨codeOf Tryz.f131, (.seq none (.reg [2] []) .leaf), [93, 3], [.tmp 3], [], [], true⟩

noncomputable def F143 : AFunc := ⟨codeOf Tryz.f143, (.seq none .leaf (.seq none (.seq none .leaf (.sub (.loop [(0, false), (1, false), (7, false), (8, false)] .leaf))) .leaf)), [25, 166], [.tmp 4], [], [], true⟩

noncomputable def F130 : AFunc := ⟨codeOf Tryz.f130, .leaf, [25, 166], [.tmp 4], [], [], true⟩

noncomputable def F111 : AFunc := ⟨codeOf Tryz.f111, (.seq none .leaf (.seq none (.seq none .leaf (.sub (.loop [(0, false), (7, false), (8, false), (9, false)] (.seq none .leaf (.seq none .leaf (.seq none (.sub (.seq none (.reg [12] []) .leaf)) .leaf)))))) .leaf)), [25, 25], [.tmp 4], [], [], true⟩

noncomputable def F72 : AFunc := ⟨codeOf Tryz.f72, (.seq none .leaf (.seq none (.seq none .leaf (.sub (.loop [(0, false), (1, false), (5, false)] (.seq none .leaf (.seq none (.sub (.seq none .leaf (.seq none (.seq none .leaf (.sub (.loop [(0, false), (1, false), (5, false), (6, false), (7, false)] .leaf))) .leaf))) .leaf))))) .leaf)), [25, 25], [.tmp 4], [], [], true⟩

noncomputable def F63 : AFunc := ⟨codeOf Tryz.f63, (.seq none (.reg [1] []) (.seq none (.seq none .leaf (.sub (.loop [(1, true), (10, false), (11, false), (12, false)] .leaf))) .leaf)), [27], [.tmp 2], [], [], true⟩

noncomputable def F26 : AFunc := ⟨codeOf Tryz.f26, (.seq none (.reg [1] []) .leaf), [27], [.tmp 2], [], [], true⟩

noncomputable def F37 : AFunc := ⟨codeOf Tryz.f37, (.seq none (.reg [2, 3] []) .leaf), [27, 27], [.tmp 4], [], [], true⟩

noncomputable def F81 : AFunc := ⟨codeOf Tryz.f81, (.seq none .leaf (.seq none .leaf (.seq none .leaf (.seq none (.seq none .leaf (.sub (.sub (.seq none .leaf (.seq none .leaf (.seq none (.sub (.seq none .leaf (.seq none (.reg [9, 21, 26] []) (.seq none (.seq none .leaf (.cond (.seq none (.reg [31] []) .leaf) .leaf)) (.seq none (.reg [34] []) .leaf))))) .leaf)))))) (.seq none (.seq none .leaf (.seq none .leaf (.cond (.seq none (.reg [44] []) .leaf) .leaf))) (.seq none (.reg [46] []) .leaf)))))), [38], [.cell 2 27, .tmp 3, .tmp 4], [], [0], true⟩

noncomputable def F89 : AFunc := ⟨codeOf Tryz.f89, (.seq none .leaf (.seq none (.reg [5, 12, 15] []) (.seq none (.seq none .leaf (.cond (.seq none (.reg [20] []) .leaf) .leaf)) (.seq none .leaf (.seq none (.seq none .leaf (.cond (.seq none (.reg [32] []) .leaf) .leaf)) (.seq none (.reg [34, 36] []) (.seq none (.seq none .leaf (.seq none .leaf (.cond (.seq none (.reg [41] []) .leaf) .leaf))) (.seq none (.reg [43] []) .leaf)))))))), [38], [.cell 2 27, .tmp 3, .tmp 4], [], [], true⟩

noncomputable def F66 : AFunc := ⟨codeOf Tryz.f66, .leaf, [3], [.tmp 2], [], [], true⟩

noncomputable def F141 : AFunc := ⟨codeOf Tryz.f141, .leaf, [136], [.tmp 2], [], [], true⟩

noncomputable def F114 : AFunc := ⟨codeOf Tryz.f114, .leaf, [136], [.tmp 2], [], [], true⟩

noncomputable def F153 : AFunc := ⟨codeOf Tryz.f153, .leaf, [136], [.tmp 2], [], [], true⟩

noncomputable def F156 : AFunc := ⟨codeOf Tryz.f156, (.seq none .leaf (.seq none (.seq none .leaf (.sub (.loop [(0, false), (1, false), (7, false), (8, false)] .leaf))) .leaf)), [94, 192], [.tmp 4], [], [], true⟩

noncomputable def F152 : AFunc := ⟨codeOf Tryz.f152, .leaf, [94, 192], [.tmp 4], [], [], true⟩

noncomputable def F142 : AFunc := ⟨codeOf Tryz.f142, (.seq none (.reg [1] []) .leaf), [96], [.tmp 2], [], [], true⟩

noncomputable def F115 : AFunc := ⟨codeOf Tryz.f115, (.seq none (.reg [1] []) (.seq none (.seq none .leaf (.sub (.loop [(1, true), (3, false)] .leaf))) .leaf)), [96], [.tmp 2], [], [], true⟩

noncomputable def F128 : AFunc := ⟨codeOf Tryz.f128, (.seq none (.reg [1] []) (.seq none .leaf (.seq none (.seq none .leaf (.sub (.loop [(1, true), (46, false), (47, false), (48, false)] .leaf))) .leaf))), [96], [.tmp 2], [], [], true⟩

noncomputable def F73 : AFunc := ⟨codeOf Tryz.f73, (.seq none (.reg [1] []) (.seq none .leaf (.seq none (.seq none .leaf (.sub (.loop [(1, true), (3, false)] .leaf))) .leaf))), [96], [.tmp 2], [], [], true⟩

noncomputable def F129 : AFunc := ⟨codeOf Tryz.f129, (.seq none (.reg [2, 3] []) .leaf), [96, 96], [.tmp 4], [], [], true⟩

noncomputable def F74 : AFunc := ⟨codeOf Tryz.f74, (.seq none (.reg [2, 3] []) .leaf), [96, 96], [.tmp 4], [], [], true⟩

noncomputable def F92 : AFunc := ⟨codeOf Tryz.f92, (.seq none (.reg [2, 3] []) (.seq none .leaf (.seq none (.seq none .leaf (.sub (.loop [(2, true), (3, true), (5, false)] .leaf))) .leaf))), [96, 96], [.tmp 4], [], [], true⟩

noncomputable def F155 : AFunc := ⟨codeOf Tryz.f155, .leaf, [38], [.tmp 2, .tmp 3, .tmp 4], [], [], true⟩

noncomputable def F150 : AFunc := ⟨codeOf Tryz.f150, .leaf, [38], [.tmp 2, .tmp 3, .tmp 4], [], [], true⟩

noncomputable def F154 : AFunc := ⟨codeOf Tryz.f154, .leaf, [38], [.tmp 2, .tmp 3, .tmp 4], [], [], true⟩

noncomputable def F149 : AFunc := ⟨codeOf Tryz.f149, .leaf, [38], [.tmp 2, .tmp 3, .tmp 4], [], [], true⟩

noncomputable def F146 : AFunc := ⟨codeOf Tryz.f146, .leaf, [182, 3, 36], [], [], [], true⟩

noncomputable def F135 : AFunc := ⟨codeOf Tryz.f135, .leaf, [182], [.tmp 2], [], [], true⟩

noncomputable def F147 : AFunc := ⟨codeOf Tryz.f147, .leaf, [182], [.tmp 2], [], [], true⟩

noncomputable def F148 : AFunc := ⟨codeOf Tryz.f148, .leaf, [182], [.tmp 2], [], [], true⟩

noncomputable def F136 : AFunc := ⟨codeOf Tryz.f136, .leaf, [182], [.cell 2 136], [], [], true⟩

noncomputable def F118 : AFunc := ⟨codeOf Tryz.f118, (.seq none .leaf (.seq none (.reg [9, 10] []) (.seq none (.reg [12] []) (.seq none .leaf (.seq none .leaf (.seq none .leaf (.seq none .leaf (.seq none (.seq none .leaf (.sub (.loop [(2, false), (5, false), (6, false), (7, false), (8, false)] (.seq none .leaf (.seq none (.sub (.reg [37, 40] [])) .leaf))))) (.seq none .leaf (.seq none (.seq none .leaf (.cond (.seq none (.reg [51] []) .leaf) .leaf)) (.seq none (.reg [54] []) .leaf))))))))))), [38], [.cell 2 96, .tmp 3, .tmp 4], [], [0], true⟩

noncomputable def F137 : AFunc := ⟨codeOf Tryz.f137, .leaf, [38], [.cell 2 136, .tmp 3, .tmp 4], [], [], true⟩

noncomputable def F120 : AFunc := ⟨codeOf Tryz.f120, (.seq none .leaf (.seq none .leaf (.seq none (.seq none .leaf (.cond (.seq none (.reg [22] []) .leaf) .leaf)) (.seq none (.seq none .leaf (.cond (.seq none (.reg [28] []) .leaf) .leaf)) (.seq none (.reg [38] []) (.seq none (.seq none .leaf (.sub (.loop [(0, false), (2, false), (5, false), (6, false), (8, false), (9, false)] (.seq none .leaf (.seq none (.sub (.seq none .leaf (.seq none (.seq none .leaf (.cond (.seq none (.reg [56] []) .leaf) .leaf)) (.seq none (.reg [59, 62] []) .leaf)))) .leaf))))) (.seq none (.seq none .leaf (.seq none .leaf (.cond (.seq none (.reg [71] []) .leaf) .leaf))) (.seq none (.reg [73] []) .leaf)))))))), [38], [.cell 2 96, .tmp 3, .tmp 4], [], [0], true⟩

noncomputable def F110 : AFunc := ⟨codeOf Tryz.f110, (.seq none .leaf (.seq none (.seq none .leaf (.sub (.loop [(0, false), (6, false), (7, false), (8, false)] (.seq none .leaf (.seq none .leaf (.seq none (.sub (.seq none (.reg [12] []) .leaf)) .leaf)))))) .leaf)), [29], [.tmp 2], [], [], true⟩

noncomputable def F71 : AFunc := ⟨codeOf Tryz.f71, (.seq none .leaf (.seq none (.seq none .leaf (.sub (.loop [(0, false), (3, false)] .leaf))) .leaf)), [29], [.tmp 2], [], [], true⟩

noncomputable def F39 : AFunc := ⟨codeOf Tryz.f39, (.seq none .leaf (.seq none .leaf (.seq none (.seq none .leaf (.sub (.loop [(0, false), (1, false), (5, false)] .leaf))) .leaf))), [29, 29], [.tmp 4], [], [], true⟩

noncomputable def F87 : AFunc := ⟨codeOf Tryz.f87, (.seq none (.reg [2] []) (.seq none .leaf (.seq none (.seq none .leaf (.cond (.seq none (.reg [2] []) .leaf) .leaf)) (.seq none (.seq none .leaf (.cond (.seq none (.reg [2] []) .leaf) .leaf)) (.seq none (.reg [8] []) (.seq none (.seq none .leaf (.sub (.loop [(0, false), (5, false), (6, false), (8, true), (9, false)] (.seq none .leaf (.seq none (.sub (.seq none (.reg [29, 34] []) (.seq none (.seq none .leaf (.cond (.seq none (.reg [2] []) .leaf) .leaf)) (.seq none (.reg [8, 40] []) .leaf)))) .leaf))))) (.seq none (.reg [2, 47] []) .leaf))))))), [38], [.tmp 2, .tmp 3, .tmp 4], [], [0], true⟩

noncomputable def F58 : AFunc := ⟨codeOf Tryz.f58, .leaf, [3], [.tmp 2], [], [], true⟩

noncomputable def F19 : AFunc := ⟨codeOf Tryz.f19, .leaf, [3], [.tmp 2], [], [], true⟩

noncomputable def F23 : AFunc := ⟨codeOf Tryz.f23, .leaf, [3], [.tmp 2], [], [], true⟩

noncomputable def F60 : AFunc := ⟨codeOf Tryz.f60, (.seq none (.reg [1] []) .leaf), [27], [.tmp 2], [], [], true⟩

noncomputable def F69 : AFunc := ⟨codeOf Tryz.f69, (.seq none (.reg [1] []) .leaf), [27], [.tmp 2], [], [], true⟩

noncomputable def F59 : AFunc := ⟨codeOf Tryz.f59, (.seq none .leaf (.seq none (.seq none .leaf (.sub (.loop [(0, false), (1, false), (7, false), (8, false)] .leaf))) .leaf)), [50, 54], [.tmp 4], [], [], true⟩

noncomputable def F20 : AFunc := ⟨codeOf Tryz.f20, .leaf, [50, 54], [.tmp 4], [], [], true⟩

noncomputable def F21 : AFunc := ⟨codeOf Tryz.f21, (.seq none (.reg [2] []) .leaf), [33, 54], [.tmp 4], [], [], true⟩

noncomputable def F109 : AFunc := ⟨codeOf Tryz.f109, (.seq none .leaf (.seq none .leaf (.seq none (.seq none .leaf (.sub (.loop [(0, false), (9, false), (10, false), (11, false)] (.seq none .leaf (.seq none .leaf (.seq none (.sub (.seq none (.reg [15] []) .leaf)) .leaf)))))) .leaf))), [29], [.tmp 2], [], [], true⟩

noncomputable def F28 : AFunc := ⟨codeOf Tryz.f28, (.seq none .leaf (.seq none .leaf (.seq none (.seq none .leaf (.sub (.loop [(0, false), (3, false)] .leaf))) .leaf))), [29], [.tmp 2], [], [], true⟩

noncomputable def F62 : AFunc := ⟨codeOf Tryz.f62, (.seq none (.reg [1] []) .leaf), [33], [.tmp 2], [], [], true⟩

noncomputable def F64 : AFunc := ⟨codeOf Tryz.f64, (.seq none .leaf (.seq none (.seq none .leaf (.sub (.loop [(0, false), (5, false), (6, false), (7, false)] .leaf))) .leaf)), [31], [.tmp 2], [], [], true⟩

noncomputable def F22 : AFunc := ⟨codeOf Tryz.f22, (.seq none (.reg [2] []) .leaf), [33, 54], [.tmp 4], [], [], true⟩

noncomputable def F8 : AFunc := ⟨codeOf Tryz.f8, (.seq none (.reg [1] []) (.seq none .leaf (.seq none .leaf (.seq none .leaf (.seq none (.seq none .leaf (.sub (.loop [(1, true), (3, false), (27, false)] .leaf))) (.seq none (.seq none .leaf (.sub (.loop [(1, true), (41, false), (42, false), (43, false)] .leaf))) .leaf)))))), [33], [.tmp 2], [], [], true⟩

noncomputable def F68 : AFunc := ⟨codeOf Tryz.f68, .leaf, [3], [.cell 2 109], [], [], true⟩

noncomputable def F24 : AFunc := ⟨codeOf Tryz.f24, (.seq none (.reg [1] []) (.seq none .leaf (.seq (some []) (.sub (.seq (some [(1, true), (3, false), (7, false)]) (.seq (some [(1, true), (3, false), (7, false)]) .leaf (.cond .leaf (.seq (some [(1, true), (3, false), (7, false)]) .leaf .leaf))) (.cond .leaf (.seq (some [(1, true), (3, false), (33, false)]) (.seq (some [(1, true), (3, false), (33, false)]) .leaf (.cond .leaf (.seq (some [(1, true), (3, false), (33, false)]) .leaf (.cond .leaf (.seq (some [(1, true), (3, false), (33, false)]) .leaf .leaf))))) (.cond .leaf (.seq (some [(68, false)]) (.seq (some [(1, true), (3, false), (68, false)]) .leaf .leaf) .leaf)))))) .leaf))), [33], [.tmp 2], [], [], true⟩

noncomputable def F29 : AFunc := ⟨codeOf Tryz.f29, (.seq none (.reg [1] []) .leaf), [33], [.tmp 2], [], [], true⟩

noncomputable def F25 : AFunc := ⟨codeOf Tryz.f25, (.seq none (.reg [1] []) (.seq (some []) (.sub (.seq (some [(1, true), (3, false)]) .leaf (.cond .leaf (.seq (some [(1, true), (28, false)]) .leaf (.cond .leaf (.seq (some [(1, true), (37, false)]) .leaf (.cond .leaf (.seq none .leaf (.cond .leaf (.seq none .leaf (.cond .leaf (.seq (some [(1, true), (67, false)]) .leaf .leaf)))))))))))) .leaf)), [33], [.tmp 2], [], [], true⟩

noncomputable def F9 : AFunc := ⟨codeOf Tryz.f9, (.seq none (.reg [1] []) .leaf), [33], [.tmp 2], [], [], true⟩

noncomputable def F84 : AFunc := ⟨codeOf Tryz.f84, .leaf, [38], [.tmp 2, .tmp 3, .tmp 4], [], [], true⟩

noncomputable def F90 : AFunc := ⟨codeOf Tryz.f90, .leaf, [38], [.tmp 2, .tmp 3, .tmp 4], [], [], true⟩

noncomputable def F75 : AFunc := ⟨codeOf Tryz.f75, .leaf, [61, 115], [.tmp 4], [], [], true⟩

noncomputable def F31 : AFunc := ⟨codeOf Tryz.f31, .leaf, [61, 4, 36], [], [], [], true⟩

noncomputable def F30 : AFunc := ⟨codeOf Tryz.f30, .leaf, [61], [.tmp 2], [], [], true⟩

noncomputable def F77 : AFunc := ⟨codeOf Tryz.f77, .leaf, [61, 117], [.tmp 4], [], [], true⟩

noncomputable def F80 : AFunc := ⟨codeOf Tryz.f80, .leaf, [61, 120], [.cell 4 27], [], [], true⟩

noncomputable def F117 : AFunc := ⟨codeOf Tryz.f117, .leaf, [61, 154], [.cell 4 96], [], [], true⟩

noncomputable def F83 : AFunc := ⟨codeOf Tryz.f83, .leaf, [61, 123], [.tmp 4], [], [], true⟩

noncomputable def F79 : AFunc := ⟨codeOf Tryz.f79, (.seq none (.reg [2] []) (.seq none .leaf (.seq none .leaf (.seq none (.reg [4] []) (.seq none (.seq none .leaf (.sub (.loop [(0, false), (3, false), (4, true), (5, false)] (.seq none .leaf (.seq none (.sub (.reg [4, 24] [])) .leaf))))) (.seq none (.reg [2, 29] []) .leaf)))))), [61], [.tmp 2], [], [], true⟩

noncomputable def F82 : AFunc := ⟨codeOf Tryz.f82, (.seq none (.reg [2] []) (.seq none .leaf (.seq none .leaf (.seq none (.reg [4] []) (.seq none (.seq none .leaf (.sub (.loop [(0, false), (3, false), (4, true), (5, false)] (.seq none .leaf (.seq none (.sub (.seq none .leaf (.seq none .leaf (.reg [4, 31] [])))) .leaf))))) (.seq none (.reg [2, 35] []) .leaf)))))), [61], [.tmp 2], [], [], true⟩

noncomputable def F32 : AFunc := ⟨codeOf Tryz.f32, (.seq none .leaf (.sub (.seq none .leaf (.cond .leaf (.seq none .leaf (.cond .leaf (.seq none .leaf (.cond .leaf (.seq none .leaf (.cond (.reg [39] []) (.seq none .leaf (.cond (.reg [46] []) (.seq none .leaf (.cond (.reg [53] []) (.seq none .leaf (.cond (.reg [60] []) (.seq none .leaf (.cond .leaf (.seq none .leaf (.cond .leaf (.seq none .leaf (.cond (.seq none .leaf (.cond (.reg [85] []) .leaf)) (.seq none .leaf (.cond (.reg [92] []) .leaf)))))))))))))))))))))))), [61, 67, 54], [], [], [], true⟩

noncomputable def F10 : AFunc := ⟨codeOf Tryz.f10, (.seq none .leaf (.seq none .leaf (.seq none .leaf (.seq none .leaf (.seq none .leaf (.seq none .leaf (.seq none .leaf (.seq none (.seq none .leaf (.sub (.loop [(2, false), (5, false), (6, false), (33, false), (34, false), (35, false)] .leaf))) .leaf)))))))), [38], [.cell 2 33, .tmp 3, .tmp 4], [], [], true⟩

noncomputable def F88 : AFunc := ⟨codeOf Tryz.f88, (.seq none (.reg [2] []) (.seq none .leaf (.seq none (.seq none .leaf (.cond (.seq none (.reg [23] []) .leaf) .leaf)) (.seq none .leaf (.seq none (.seq none .leaf (.cond (.seq none (.reg [28, 33] []) (.seq none (.seq none .leaf (.cond (.seq none (.reg [38] []) .leaf) .leaf)) (.seq none (.reg [40] []) .leaf))) .leaf)) (.seq none (.reg [45, 50] []) (.seq none (.seq none .leaf (.cond (.seq none (.reg [55] []) .leaf) .leaf)) (.seq none (.reg [57] []) (.seq none (.reg [59] []) .leaf))))))))), [33, 38], [.cell 4 33, .tmp 5, .tmp 6], [], [], true⟩

noncomputable def F35 : AFunc := ⟨codeOf Tryz.f35, .leaf, [33, 38], [.cell 4 33, .tmp 5, .tmp 6], [], [], true⟩

noncomputable def F36 : AFunc := ⟨codeOf Tryz.f36, (.seq none (.reg [2] []) (.seq none .leaf (.seq none .leaf (.seq none .leaf (.seq none (.seq none .leaf (.sub (.seq none .leaf (.cond (.seq none .leaf (.seq none .leaf (.seq none .leaf (.seq none .leaf (.seq none .leaf (.seq none .leaf (.seq none (.seq none .leaf (.sub (.loop [(2, true), (4, false), (8, false), (10, false), (11, false), (13, false), (14, false)] (.seq none .leaf (.seq none (.sub (.reg [73, 87] [])) .leaf))))) .leaf))))))) .leaf)))) .leaf))))), [33, 38], [.cell 4 33, .tmp 5, .tmp 6], [], [], true⟩

noncomputable def F11 : AFunc := ⟨codeOf Tryz.f11, (.seq none .leaf (.seq none .leaf (.seq none .leaf (.seq none .leaf (.seq none .leaf (.seq none .leaf (.seq none .leaf (.seq none (.reg [3000051, 4000051] []) .leaf)))))))), [38], [.cell 2 33, .tmp 3, .tmp 4], [], [], true⟩

noncomputable def F12 : AFunc := ⟨codeOf Tryz.f12, (.seq none (.reg [2, 3] []) .leaf), [33, 33], [.tmp 4], [], [], true⟩

noncomputable def F6 : AFunc := ⟨codeOf Tryz.f6, (.seq none (.reg [1] []) .leaf), [33], [.tmp 2], [], [], true⟩

noncomputable def F7 : AFunc := ⟨codeOf Tryz.f7, (.seq none .leaf (.seq none (.reg [6] []) (.seq none (.reg [7, 11] []) .leaf))), [], [.tmp 0], [], [], true⟩

noncomputable def F3 : AFunc := ⟨codeOf Tryz.f3, (.seq none (.reg [1] []) .leaf), [33], [.tmp 2], [], [], true⟩

noncomputable def F4 : AFunc := ⟨codeOf Tryz.f4, (.seq none .leaf (.seq none .leaf (.seq none (.reg [13, 16] []) (.seq none (.reg [19, 22] []) .leaf)))), [38], [.tmp 2], [], [], true⟩

noncomputable def F105 : AFunc := ⟨codeOf Tryz.f105, (.seq none .leaf (.seq none .leaf (.seq none (.seq none .leaf (.sub (.loop [(0, false), (1, false), (12, false), (13, false)] .leaf))) .leaf))), [91, 91], [.tmp 4], [], [], true⟩

noncomputable def F106 : AFunc := ⟨codeOf Tryz.f106, (.seq none .leaf (.seq none .leaf (.seq none (.seq none .leaf (.sub (.loop [(0, false), (1, false), (12, false), (13, false)] .leaf))) .leaf))), [94, 94], [.tmp 4], [], [], true⟩

noncomputable def F57 : AFunc := ⟨codeOf Tryz.f57, (.seq none .leaf (.seq none .leaf (.seq none (.seq none .leaf (.sub (.loop [(0, false), (1, false), (12, false), (13, false)] .leaf))) .leaf))), [31, 31], [.tmp 4], [], [], true⟩

noncomputable def F53 : AFunc := ⟨codeOf Tryz.f53, (.seq none (.reg [2, 3] []) .leaf), [27, 27], [.tmp 4], [], [], true⟩

noncomputable def F54 : AFunc := ⟨codeOf Tryz.f54, .leaf, [25, 25], [.tmp 4], [], [], true⟩

noncomputable def F104 : AFunc := ⟨codeOf Tryz.f104, (.seq none (.reg [2, 3] []) .leaf), [93, 93], [.tmp 4], [], [], true⟩

noncomputable def F17 : AFunc := ⟨codeOf Tryz.f17, (.seq none (.reg [2, 3] []) .leaf), [33, 33], [.tmp 4], [], [], true⟩

noncomputable def F56 : AFunc := ⟨codeOf Tryz.f56, (.seq none (.reg [2, 3] []) .leaf), [96, 96], [.tmp 4], [], [], true⟩

noncomputable def F55 : AFunc := ⟨codeOf Tryz.f55, (.seq none .leaf (.seq none .leaf (.seq none (.seq none .leaf (.sub (.loop [(1, false), (2, false), (15, false), (16, false), (17, false)] (.seq none .leaf (.seq none .leaf (.seq none (.sub (.seq none (.reg [21] []) (.seq none (.reg [25] []) .leaf))) .leaf)))))) .leaf))), [29, 29, 101], [.tmp 6], [], [], true⟩

noncomputable def F103 : AFunc := ⟨codeOf Tryz.f103, (.seq none .leaf (.seq none .leaf (.seq none (.seq none .leaf (.sub (.loop [(1, false), (2, false), (15, false), (16, false), (17, false)] (.seq none .leaf (.seq none .leaf (.seq none (.sub (.seq none (.reg [21] []) (.seq none (.reg [25] []) .leaf))) .leaf)))))) .leaf))), [25, 25, 130], [.tmp 6], [], [], true⟩

noncomputable def F102 : AFunc := ⟨codeOf Tryz.f102, (.seq none (.reg [4] []) (.seq none (.seq none .leaf (.cond (.seq none (.reg [4, 6, 11] []) .leaf) .leaf)) (.seq none (.reg [4, 14, 19] []) .leaf))), [38, 4], [.tmp 4], [], [0], true⟩

noncomputable def F51 : AFunc := ⟨codeOf Tryz.f51, (.seq none (.reg [2] []) (.seq none (.reg [3] []) (.seq none (.seq none .leaf (.sub (.loop [(3, true), (6, false), (7, false), (8, false)] (.seq none .leaf (.seq none .leaf (.seq none (.sub (.seq none .leaf (.reg [3] []))) .leaf)))))) (.seq none (.reg [2, 17] []) .leaf)))), [43], [.tmp 2], [], [0], true⟩

noncomputable def F52 : AFunc := ⟨codeOf Tryz.f52, (.seq none (.reg [2, 4] []) (.seq none (.seq none .leaf (.sub (.seq none .leaf (.cond (.seq none (.reg [4] []) .leaf) (.seq none .leaf (.cond (.seq none (.reg [4] []) .leaf) (.seq none .leaf (.cond (.seq none (.reg [4] []) .leaf) (.seq none .leaf (.cond (.seq none (.reg [4] []) .leaf) (.seq none .leaf (.cond (.seq none (.reg [5] []) (.seq none (.seq none .leaf (.sub (.loop [(5, true), (47, false), (48, false), (49, false)] (.seq none .leaf (.seq none .leaf (.seq none (.sub (.seq none (.reg [52] []) (.reg [5, 53] []))) .leaf)))))) (.seq none (.reg [4, 58] []) .leaf))) (.seq none .leaf (.cond (.seq none (.reg [4] []) .leaf) (.seq none .leaf (.cond (.seq none (.reg [8] []) (.seq none (.seq none .leaf (.sub (.loop [(8, true), (72, false), (73, false), (74, false)] (.seq none .leaf (.seq none .leaf (.seq none (.sub (.seq none .leaf (.reg [8, 78] []))) .leaf)))))) (.seq none (.reg [4, 87] []) .leaf))) (.seq none .leaf (.cond (.seq none (.reg [4] []) .leaf) (.seq none .leaf (.cond (.seq none (.reg [4] []) .leaf) (.seq none .leaf (.cond (.seq none (.seq none .leaf (.cond (.seq none (.reg [4] []) .leaf) .leaf)) (.seq none (.reg [4] []) .leaf)) .leaf)))))))))))))))))))))) (.seq none (.reg [4] []) .leaf))), [33, 54], [.tmp 4], [], [0], true⟩

noncomputable def F16 : AFunc := ⟨codeOf Tryz.f16, (.seq none (.reg [3, 4] []) (.seq none (.reg [5] []) (.seq none .leaf (.seq none (.seq none .leaf (.sub (.loop [(0, true), (3, true), (5, true), (24, false), (25, false), (26, false)] (.seq none .leaf (.seq none .leaf (.seq none (.sub (.seq none .leaf (.reg [5, 30] []))) .leaf)))))) (.seq none (.reg [4, 36, 41] []) .leaf))))), [38, 33], [.tmp 4], [], [], true⟩

noncomputable def F98 : AFunc := ⟨codeOf Tryz.f98, (.seq none (.reg [4] []) (.seq none (.reg [5] []) (.seq none (.sub (.loop [(0, true), (1, false), (5, true)] (.seq none .leaf (.sub (.seq none (.reg [5, 8] []) .leaf))))) (.seq none (.reg [5, 16] []) (.seq none (.reg [4, 21, 26] []) .leaf))))), [38, 113], [.tmp 4], [], [0], true⟩

noncomputable def F122 : AFunc := ⟨codeOf Tryz.f122, (.seq none (.reg [3, 4] []) (.seq none (.reg [5] []) (.seq none (.seq none .leaf (.sub (.loop [(0, true), (5, true), (20, false), (21, false), (22, false)] (.seq none .leaf (.seq none .leaf (.seq none (.sub (.seq none .leaf (.reg [5, 26] []))) .leaf)))))) (.seq none .leaf (.seq none (.seq none .leaf (.sub (.loop [(0, true), (8, false), (47, false), (48, false), (49, false)] .leaf))) (.seq none (.reg [4, 58, 63] []) .leaf)))))), [38, 93], [.tmp 4], [], [0], true⟩

noncomputable def F41 : AFunc := ⟨codeOf Tryz.f41, .leaf, [3, 3], [.tmp 4], [], [], true⟩

noncomputable def F42 : AFunc := ⟨codeOf Tryz.f42, (.seq none .leaf (.seq none .leaf (.seq none (.seq none .leaf (.sub (.loop [(1, false), (2, false), (7, false), (8, false)] .leaf))) .leaf))), [3, 3, 3], [.tmp 6], [], [], true⟩

noncomputable def F48 : AFunc := ⟨codeOf Tryz.f48, .leaf, [43, 3], [.tmp 4], [], [], true⟩

noncomputable def F96 : AFunc := ⟨codeOf Tryz.f96, .leaf, [3], [.cell 2 87], [], [], true⟩

noncomputable def F49 : AFunc := ⟨codeOf Tryz.f49, .leaf, [3], [.cell 2 89], [], [], true⟩

noncomputable def F14 : AFunc := ⟨codeOf Tryz.f14, (.seq none (.reg [2] []) (.seq none (.reg [3] []) (.seq none .leaf (.seq none (.seq none .leaf (.sub (.loop [(0, false), (3, true), (4, false), (5, false)] (.seq none .leaf (.seq none (.sub (.seq none .leaf (.sub (.loop [(0, false), (3, true), (4, false), (5, false), (6, false)] (.seq none .leaf (.seq none (.sub (.seq none (.reg [29, 30] []) (.seq none .leaf (.seq none (.seq none .leaf (.cond (.reg [62, 65] []) .leaf)) (.seq none (.reg [3, 67] []) .leaf))))) .leaf)))))) .leaf))))) (.seq none (.reg [2, 73] []) .leaf))))), [43], [.tmp 2], [], [0], true⟩

noncomputable def F99 : AFunc := ⟨codeOf Tryz.f99, (.seq none (.reg [4] []) (.seq none (.reg [5] []) (.seq none (.seq none .leaf (.sub (.loop [(0, true), (5, true), (12, false), (13, false), (14, false)] (.seq none .leaf (.seq none .leaf (.seq none (.sub (.seq none (.reg [17] []) (.reg [5, 18] []))) .leaf)))))) (.seq none (.reg [4, 23, 28] []) .leaf)))), [38, 25], [.tmp 4], [], [0], true⟩

noncomputable def F95 : AFunc := ⟨codeOf Tryz.f95, (.seq none .leaf (.seq none (.seq none .leaf (.sub (.loop [(0, false), (1, false), (5, false)] .leaf))) .leaf)), [31, 3], [.tmp 4], [], [], true⟩

noncomputable def F94 : AFunc := ⟨codeOf Tryz.f94, (.seq none (.reg [6] []) (.seq none (.seq none .leaf (.cond (.seq none (.reg [6, 20] []) .leaf) .leaf)) (.seq none (.reg [7] []) (.seq none .leaf (.seq none (.seq none .leaf (.sub (.loop [(0, true), (1, false), (2, false), (7, true), (8, false), (9, false)] (.seq none .leaf (.seq none (.sub (.seq none (.seq none .leaf (.cond (.seq none (.reg [7, 40] []) .leaf) .leaf)) (.seq none .leaf (.cond (.reg [7, 53] []) .leaf)))) .leaf))))) (.seq none (.seq none .leaf (.cond (.reg [7, 62] []) .leaf)) (.seq none (.reg [6, 68] []) .leaf))))))), [31, 3, 3], [.tmp 6], [], [], true⟩

noncomputable def F93 : AFunc := ⟨codeOf Tryz.f93, (.seq none (.reg [4] []) (.seq none (.reg [5] []) (.seq none (.seq none .leaf (.sub (.loop [(0, false), (1, false), (5, true), (6, false)] (.seq none .leaf (.seq none (.sub (.seq none .leaf (.cond (.reg [5, 26] []) .leaf))) .leaf))))) (.seq none (.reg [4, 33] []) .leaf)))), [25, 31], [.tmp 4], [], [], true⟩

noncomputable def F43 : AFunc := ⟨codeOf Tryz.f43, (.seq none (.reg [4] []) (.seq none (.reg [5] []) (.seq none (.seq none .leaf (.sub (.loop [(0, false), (1, false), (5, true), (6, false)] (.seq none .leaf (.seq none (.sub (.seq none .leaf (.cond (.reg [5, 16] []) .leaf))) .leaf))))) (.seq none (.reg [4] []) .leaf)))), [25, 3], [.tmp 4], [], [], true⟩

noncomputable def F101 : AFunc := ⟨codeOf Tryz.f101, (.seq none (.reg [3, 4] []) (.seq none (.reg [4] []) .leaf)), [38, 27], [.tmp 4], [], [0], true⟩

noncomputable def F45 : AFunc := ⟨codeOf Tryz.f45, (.seq none .leaf (.seq none .leaf (.seq none (.reg [13, 15] []) .leaf))), [25, 3], [.cell 4 27], [], [], true⟩

noncomputable def F123 : AFunc := ⟨codeOf Tryz.f123, (.seq none (.reg [4] []) (.seq none (.reg [4] []) .leaf)), [38, 9], [.tmp 4], [], [0], true⟩

noncomputable def F124 : AFunc := ⟨codeOf Tryz.f124, (.seq none (.reg [4] []) (.seq none (.reg [4] []) .leaf)), [38, 2], [.tmp 4], [], [0], true⟩

noncomputable def F100 : AFunc := ⟨codeOf Tryz.f100, (.seq none (.reg [3, 4] []) (.seq none .leaf (.seq none (.seq none .leaf (.sub (.loop [(0, true), (3, true), (5, false), (19, false), (20, false), (21, false)] .leaf))) (.seq none (.seq none .leaf (.sub (.loop [(0, true), (5, false), (31, false), (32, false), (33, false)] .leaf))) (.seq none (.reg [4, 57, 62] []) .leaf))))), [38, 96], [.tmp 4], [], [0], true⟩

noncomputable def F121 : AFunc := ⟨codeOf Tryz.f121, .leaf, [3], [.tmp 2], [], [], true⟩

noncomputable def F97 : AFunc := ⟨codeOf Tryz.f97, .leaf, [3, 4], [.cell 4 136], [], [], true⟩

noncomputable def F50 : AFunc := ⟨codeOf Tryz.f50, (.seq none .leaf (.seq none (.reg [11] []) (.seq none (.seq none .leaf (.cond (.seq none .leaf (.seq none (.reg [20] []) (.seq none (.reg [22] []) .leaf))) .leaf)) (.seq none (.seq none .leaf (.sub (.loop [(2, false), (6, false), (7, false), (8, false)] (.seq none .leaf (.seq none (.sub (.reg [30, 38] [])) .leaf))))) (.seq none (.reg [40] []) .leaf))))), [3, 3, 3], [.cell 6 96], [], [0], true⟩

noncomputable def F15 : AFunc := ⟨codeOf Tryz.f15, (.seq none (.reg [2] []) (.seq none (.reg [3] []) (.seq none (.seq none .leaf (.sub (.loop [(0, false), (3, true), (4, false)] (.seq none .leaf (.seq none (.sub (.seq none .leaf (.seq none .leaf (.sub (.loop [(0, false), (3, true), (4, false), (5, false), (6, false)] (.seq none .leaf (.seq none (.sub (.seq none .leaf (.cond (.seq none .leaf (.reg [3, 34] [])) .leaf))) .leaf))))))) .leaf))))) (.seq none (.reg [2, 47] []) .leaf)))), [43], [.tmp 2], [], [0], true⟩

noncomputable def F46 : AFunc := ⟨codeOf Tryz.f46, (.seq none (.reg [2] []) (.seq none (.reg [3] []) (.seq none (.seq none .leaf (.sub (.loop [(0, false), (3, false), (4, false)] (.seq none .leaf (.seq none (.sub (.reg [3] [])) .leaf))))) (.seq none (.reg [2, 26] []) .leaf)))), [29], [.tmp 2], [], [], true⟩

noncomputable def F47 : AFunc := ⟨codeOf Tryz.f47, (.seq none (.reg [6] []) (.seq none (.reg [8] []) (.seq none (.seq none .leaf (.sub (.loop [(0, false), (1, false), (2, false), (8, true), (9, false)] (.seq none .leaf (.seq none (.sub (.seq none .leaf (.seq none (.seq none .leaf (.cond (.seq none (.reg [6, 33] []) .leaf) .leaf)) (.reg [8, 34] [])))) .leaf))))) (.seq none (.reg [6, 41] []) .leaf)))), [29, 31, 3], [.tmp 6, .tmp 7], [], [], true⟩

noncomputable def F44 : AFunc := ⟨codeOf Tryz.f44, (.seq none (.reg [4] []) (.seq none (.reg [5] []) (.seq none (.seq none .leaf (.sub (.loop [(0, false), (1, false), (5, true), (6, false)] (.seq none .leaf (.seq none (.sub (.seq none .leaf (.cond (.reg [5, 27] []) .leaf))) .leaf))))) (.seq none (.reg [4, 34] []) .leaf)))), [29, 3], [.tmp 4], [], [], true⟩

noncomputable def fnTab : List (Nat × (Sig × FnDef)) := [
  (44, (⟨[.one (.sl false 96)], []⟩, .code F44)),
  (47, (⟨[.one (.sl false 96), .one (.bool)], []⟩, .code F47)),
  (46, (⟨[.one (.sl false 103)], []⟩, .code F46)),
  (15, (⟨[.one (.sl true 96)], []⟩, .code F15)),
  (50, (⟨[.agg [.int .i64, .int .i64, .int .i64, .sl true 136]], []⟩, .code F50)),
  (97, (⟨[.agg [.int .i64, .str, .str, .int .i64, .str]], []⟩, .code F97)),
  (121, (⟨[.one (.str)], []⟩, .code F121)),
  (100, (⟨[.one (.sl true 5)], []⟩, .code F100)),
  (124, (⟨[.one (.sl true 5)], []⟩, .code F124)),
  (123, (⟨[.one (.sl true 5)], []⟩, .code F123)),
  (45, (⟨[.agg [.sl false 93, .sl false 93]], []⟩, .code F45)),
  (101, (⟨[.one (.sl true 5)], []⟩, .code F101)),
  (43, (⟨[.one (.sl false 93)], []⟩, .code F43)),
  (93, (⟨[.one (.sl false 93)], []⟩, .code F93)),
  (94, (⟨[.one (.sl false 103)], []⟩, .code F94)),
  (95, (⟨[.one (.int .i64)], []⟩, .code F95)),
  (99, (⟨[.one (.sl true 5)], []⟩, .code F99)),
  (14, (⟨[.one (.sl true 93)], []⟩, .code F14)),
  (49, (⟨[.agg [.int .i64, .int .i64, .int .i64, .int .i64, .int .i64, .int .i64, .int .i64]], []⟩, .code F49)),
  (96, (⟨[.agg [.int .i64, .int .i64, .int .i64]], []⟩, .code F96)),
  (48, (⟨[.one (.int .i64)], []⟩, .code F48)),
  (42, (⟨[.one (.int .i64)], []⟩, .code F42)),
  (41, (⟨[.one (.int .i64)], []⟩, .code F41)),
  (122, (⟨[.one (.sl true 5)], []⟩, .code F122)),
  (98, (⟨[.one (.sl true 5)], []⟩, .code F98)),
  (16, (⟨[.one (.sl false 5)], []⟩, .code F16)),
  (52, (⟨[.one (.sl true 5)], []⟩, .code F52)),
  (51, (⟨[.one (.sl true 5)], []⟩, .code F51)),
  (102, (⟨[.one (.sl true 5)], []⟩, .code F102)),
  (103, (⟨[.one (.bool)], []⟩, .code F103)),
  (55, (⟨[.one (.bool)], []⟩, .code F55)),
  (56, (⟨[.one (.bool)], []⟩, .code F56)),
  (17, (⟨[.one (.bool)], []⟩, .code F17)),
  (104, (⟨[.one (.bool)], []⟩, .code F104)),
  (54, (⟨[.one (.bool)], []⟩, .code F54)),
  (53, (⟨[.one (.bool)], []⟩, .code F53)),
  (57, (⟨[.one (.bool)], []⟩, .code F57)),
  (106, (⟨[.one (.bool)], []⟩, .code F106)),
  (105, (⟨[.one (.bool)], []⟩, .code F105)),
  (4, (⟨[.one (.bool)], []⟩, .code F4)),
  (3, (⟨[.one (.bool)], []⟩, .code F3)),
  (7, (⟨[.one (.bool)], []⟩, .code F7)),
  (6, (⟨[.one (.bool)], []⟩, .code F6)),
  (12, (⟨[.one (.bool)], []⟩, .code F12)),
  (11, (⟨[.agg [.int .i64, .int .i64, .int .i64, .int .i64, .int .i64, .int .i64, .int .i64, .sl false 93, .sl false 93, .sl false 93, .sl false 93, .bool, .sl false 93, .sl false 93, .sl false 93, .sl false 96, .sl false 103, .bool], .one (.int .i64), .one (.int .i64)], []⟩, .code F11)),
  (36, (⟨[.agg [.int .i64, .int .i64, .int .i64, .int .i64, .int .i64, .int .i64, .int .i64, .sl false 93, .sl false 93, .sl false 93, .sl false 93, .bool, .sl false 93, .sl false 93, .sl false 93, .sl false 96, .sl false 103, .bool], .one (.int .i64), .one (.int .i64)], []⟩, .code F36)),
  (35, (⟨[.agg [.int .i64, .int .i64, .int .i64, .int .i64, .int .i64, .int .i64, .int .i64, .sl false 93, .sl false 93, .sl false 93, .sl false 93, .bool, .sl false 93, .sl false 93, .sl false 93, .sl false 96, .sl false 103, .bool], .one (.int .i64), .one (.int .i64)], []⟩, .code F35)),
  (88, (⟨[.agg [.int .i64, .int .i64, .int .i64, .int .i64, .int .i64, .int .i64, .int .i64, .sl false 93, .sl false 93, .sl false 93, .sl false 93, .bool, .sl false 93, .sl false 93, .sl false 93, .sl false 96, .sl false 103, .bool], .one (.int .i64), .one (.int .i64)], []⟩, .code F88)),
  (10, (⟨[.agg [.int .i64, .int .i64, .int .i64, .int .i64, .int .i64, .int .i64, .int .i64, .sl false 93, .sl false 93, .sl false 93, .sl false 93, .bool, .sl false 93, .sl false 93, .sl false 93, .sl false 96, .sl false 103, .bool], .one (.int .i64), .one (.int .i64)], []⟩, .code F10)),
  (32, (⟨[], [[.sl false 5, .int .i64, .int .i64], [.int .i64, .int .i64, .int .i64, .int .i64, .int .i64, .int .i64, .int .i64, .sl false 93, .sl false 93, .sl false 93, .sl false 93, .bool, .sl false 93, .sl false 93, .sl false 93, .sl false 96, .sl false 103, .bool]]⟩, .code F32)),
  (82, (⟨[.one (.sl false 103)], [[.sl false 5, .int .i64, .int .i64]]⟩, .code F82)),
  (79, (⟨[.one (.sl false 96)], [[.sl false 5, .int .i64, .int .i64]]⟩, .code F79)),
  (83, (⟨[.one (.bool)], [[.sl false 5, .int .i64, .int .i64]]⟩, .code F83)),
  (117, (⟨[.agg [.int .i64, .int .i64, .int .i64, .sl false 136]], [[.sl false 5, .int .i64, .int .i64]]⟩, .code F117)),
  (80, (⟨[.agg [.sl false 93, .sl false 93]], [[.sl false 5, .int .i64, .int .i64]]⟩, .code F80)),
  (77, (⟨[.one (.sl false 93)], [[.sl false 5, .int .i64, .int .i64]]⟩, .code F77)),
  (30, (⟨[.one (.int .i64)], [[.sl false 5, .int .i64, .int .i64]]⟩, .code F30)),
  (31, (⟨[], [[.sl false 5, .int .i64, .int .i64]]⟩, .code F31)),
  (75, (⟨[.one (.int .u64)], [[.sl false 5, .int .i64, .int .i64]]⟩, .code F75)),
  (90, (⟨[.one (.bool), .one (.int .i64), .one (.int .i64)], []⟩, .code F90)),
  (84, (⟨[.one (.bool), .one (.int .i64), .one (.int .i64)], []⟩, .code F84)),
  (9, (⟨[.one (.int .i64)], []⟩, .code F9)),
  (25, (⟨[.one (.int .i64)], []⟩, .code F25)),
  (29, (⟨[.one (.int .i64)], []⟩, .code F29)),
  (24, (⟨[.one (.bool)], []⟩, .code F24)),
  (68, (⟨[.agg [.bool, .bool, .bool, .bool, .bool, .bool, .bool, .bool, .bool]], []⟩, .code F68)),
  (8, (⟨[.one (.int .i64)], []⟩, .code F8)),
  (22, (⟨[.one (.int .i64)], []⟩, .code F22)),
  (64, (⟨[.one (.int .i64)], []⟩, .code F64)),
  (62, (⟨[.one (.int .i64)], []⟩, .code F62)),
  (28, (⟨[.one (.int .i64)], []⟩, .code F28)),
  (109, (⟨[.one (.int .i64)], []⟩, .code F109)),
  (21, (⟨[.one (.bool)], []⟩, .code F21)),
  (20, (⟨[.one (.bool)], []⟩, .code F20)),
  (59, (⟨[.one (.int .i64)], []⟩, .code F59)),
  (69, (⟨[.one (.bool)], []⟩, .code F69)),
  (60, (⟨[.one (.bool)], []⟩, .code F60)),
  (23, (⟨[.one (.bool)], []⟩, .code F23)),
  (19, (⟨[.one (.bool)], []⟩, .code F19)),
  (58, (⟨[.one (.bool)], []⟩, .code F58)),
  (18, (⟨[.one (.sl false 54), .one (.bool)], []⟩, .prim (primUsed 54))),
  (87, (⟨[.one (.sl true 96), .one (.int .i64), .one (.int .i64)], []⟩, .code F87)),
  (39, (⟨[.one (.bool)], []⟩, .code F39)),
  (71, (⟨[.one (.int .i64)], []⟩, .code F71)),
  (110, (⟨[.one (.int .i64)], []⟩, .code F110)),
  (120, (⟨[.agg [.int .i64, .int .i64, .int .i64, .sl true 136], .one (.int .i64), .one (.int .i64)], []⟩, .code F120)),
  (137, (⟨[.agg [.int .i64, .str, .str, .int .i64, .str], .one (.int .i64), .one (.int .i64)], []⟩, .code F137)),
  (118, (⟨[.agg [.int .i64, .int .i64, .int .i64, .sl true 136], .one (.int .i64), .one (.int .i64)], []⟩, .code F118)),
  (136, (⟨[.agg [.int .i64, .str, .str, .int .i64, .str]], [[.sl false 5, .int .i64, .int .i64]]⟩, .code F136)),
  (148, (⟨[.one (.int .i64)], [[.sl false 5, .int .i64, .int .i64]]⟩, .code F148)),
  (147, (⟨[.one (.str)], [[.sl false 5, .int .i64, .int .i64]]⟩, .code F147)),
  (135, (⟨[.one (.int .i64)], [[.sl false 5, .int .i64, .int .i64]]⟩, .code F135)),
  (146, (⟨[], [[.sl false 5, .int .i64, .int .i64]]⟩, .code F146)),
  (149, (⟨[.one (.str), .one (.int .i64), .one (.int .i64)], []⟩, .code F149)),
  (154, (⟨[.one (.str), .one (.int .i64), .one (.int .i64)], []⟩, .code F154)),
  (150, (⟨[.one (.int .i64), .one (.int .i64), .one (.int .i64)], []⟩, .code F150)),
  (155, (⟨[.one (.int .i64), .one (.int .i64), .one (.int .i64)], []⟩, .code F155)),
  (92, (⟨[.one (.bool)], []⟩, .code F92)),
  (74, (⟨[.one (.int .i64)], []⟩, .code F74)),
  (129, (⟨[.one (.int .i64)], []⟩, .code F129)),
  (73, (⟨[.one (.int .i64)], []⟩, .code F73)),
  (128, (⟨[.one (.int .i64)], []⟩, .code F128)),
  (115, (⟨[.one (.bool)], []⟩, .code F115)),
  (142, (⟨[.one (.bool)], []⟩, .code F142)),
  (152, (⟨[.one (.bool)], []⟩, .code F152)),
  (156, (⟨[.one (.int .i64)], []⟩, .code F156)),
  (153, (⟨[.one (.bool)], []⟩, .code F153)),
  (114, (⟨[.one (.int .i64)], []⟩, .code F114)),
  (141, (⟨[.one (.int .i64)], []⟩, .code F141)),
  (151, (⟨[.one (.bool)], []⟩, .prim prim151)),
  (66, (⟨[.one (.bool)], []⟩, .code F66)),
  (89, (⟨[.agg [.sl false 93, .sl false 93], .one (.int .i64), .one (.int .i64)], []⟩, .code F89)),
  (81, (⟨[.agg [.sl true 93, .sl true 93], .one (.int .i64), .one (.int .i64)], []⟩, .code F81)),
  (37, (⟨[.one (.bool)], []⟩, .code F37)),
  (26, (⟨[.one (.int .i64)], []⟩, .code F26)),
  (63, (⟨[.one (.int .i64)], []⟩, .code F63)),
  (72, (⟨[.one (.bool)], []⟩, .code F72)),
  (111, (⟨[.one (.bool)], []⟩, .code F111)),
  (130, (⟨[.one (.bool)], [[.int .i64, .int .i64, .sl false 89]]⟩, .code F130)),
  (143, (⟨[.one (.int .i64)], [[.int .i64, .int .i64, .sl false 89]]⟩, .code F143)),
  (131, (⟨[.one (.bool)], [[.int .i64, .int .i64, .sl false 89]]⟩, .code F131)),
  (132, (⟨[.one (.bool)], []⟩, .code F132)),
  (144, (⟨[.one (.bool)], []⟩, .code F144)),
  (27, (⟨[.one (.int .i64)], []⟩, .code F27)),
  (40, (⟨[.one (.bool)], []⟩, .code F40)),
  (86, (⟨[.one (.sl true 93), .one (.int .i64), .one (.int .i64)], []⟩, .code F86)),
  (78, (⟨[.one (.sl true 93), .one (.int .i64), .one (.int .i64)], []⟩, .code F78)),
  (38, (⟨[.one (.bool)], []⟩, .code F38)),
  (70, (⟨[.one (.int .i64)], []⟩, .code F70)),
  (61, (⟨[.one (.int .i64)], []⟩, .code F61)),
  (119, (⟨[.agg [.int .i64, .int .i64, .sl true 89], .one (.int .i64), .one (.int .i64)], []⟩, .code F119)),
  (34, (⟨[.one (.sl true 3), .one (.int .i64), .one (.int .i64)], []⟩, .code F34)),
  (33, (⟨[.one (.int .i64), .one (.int .i64), .one (.int .i64)], []⟩, .code F33)),
  (116, (⟨[.agg [.int .i64, .int .i64, .sl true 89], .one (.int .i64), .one (.int .i64)], []⟩, .code F116)),
  (134, (⟨[.one (.int .i64)], [[.sl false 5, .int .i64, .int .i64]]⟩, .code F134)),
  (85, (⟨[.one (.int .u64), .one (.int .i64), .one (.int .i64)], []⟩, .code F85)),
  (76, (⟨[.one (.int .u64), .one (.int .i64), .one (.int .i64)], []⟩, .code F76)),
  (91, (⟨[.one (.bool)], []⟩, .code F91)),
  (113, (⟨[.one (.int .i64)], []⟩, .code F113)),
  (108, (⟨[.one (.int .i64)], []⟩, .code F108)),
  (126, (⟨[.one (.int .i64)], []⟩, .code F126)),
  (127, (⟨[.one (.int .i64)], []⟩, .code F127)),
  (140, (⟨[.one (.bool)], []⟩, .code F140)),
  (112, (⟨[.one (.int .i64)], []⟩, .code F112)),
  (107, (⟨[.one (.int .i64)], []⟩, .code F107)),
  (133, (⟨[.one (.int .i64)], []⟩, .code F133)),
  (125, (⟨[.one (.int .i64)], []⟩, .code F125)),
  (145, (⟨[.one (.int .i64)], []⟩, .code F145)),
  (67, (⟨[.one (.bool)], []⟩, .code F67)),
  (65, (⟨[.one (.bool)], []⟩, .code F65)),
  (139, (⟨[.one (.int .i64)], []⟩, .code F139)),
  (138, (⟨[.one (.bool)], []⟩, .code F138))]

noncomputable def E : Env := ⟨lookT tyTab, lookT fnTab⟩

def s138 : Go.Abs.Spec := fun args blk => match args, blk with
  | [.one (.int .i64 n), .one (.int .i64 lo), .one (.int .i64 hi), .one (.bool u)], [] => (true, ([.one (.bool (within n lo hi u))], []))
  | _, _ => (false, ([], []))

def s139 : Go.Abs.Spec := fun args blk => match args, blk with
  | [.agg [.int .i64 k, .int .i64 c, .int .i64 f]], [] => (true, ([.one (.int .i64 (vRule k c f))], []))
  | _, _ => (false, ([], []))

def s65 : Go.Abs.Spec := fun args blk => match args, blk with
  | [.one (.int .i64 n)], [] => (true, ([.one (.bool (isServer n))], []))
  | _, _ => (false, ([], []))

def s67 : Go.Abs.Spec := fun args blk => match args, blk with
  | [.one (.int .i64 n)], [] => (true, ([.one (.bool (isAdmin n))], []))
  | _, _ => (false, ([], []))

def s145 : Go.Abs.Spec := fun args blk => match args, blk with
  | [.agg [.int .i64 k, .int .i64 c, .int .i64 f]], [] => (true, ([.one (.int .i64 (vRule k c f))], []))
  | _, _ => (false, ([], []))

def s125 : Go.Abs.Spec := fun args blk => match args, blk with
  | [.agg [.int .i64 k, .int .i64 s, .int .i64 w, .int .i64 v, .int .i64 rk, .int .i64 rc, .int .i64 rf]], [] => (true, ([.one (.int .i64 (vChange k s w v rk rc rf))], []))
  | _, _ => (false, ([], []))

def s133 : Go.Abs.Spec := fun args blk => match args, blk with
  | [.agg [.int .i64 k, .int .i64 s, .int .i64 w, .int .i64 v, .int .i64 rk, .int .i64 rc, .int .i64 rf]], [] => (true, ([.one (.int .i64 (vChange k s w v rk rc rf))], []))
  | _, _ => (false, ([], []))

def s107 : Go.Abs.Spec := fun args blk => match args, blk with
  | [.agg [.int .i64 ap, .int .i64 np, .sl false 89 cp]], [] => ((decide (cp.length < 9223372036854775808)), ([.one (.int .i64 (vProp ap np cp))], []))
  | _, _ => (false, ([], []))

def s112 : Go.Abs.Spec := fun args blk => match args, blk with
  | [.agg [.int .i64 ap, .int .i64 np, .sl false 89 cp]], [] => ((decide (cp.length < 9223372036854775808)), ([.one (.int .i64 (vProp ap np cp))], []))
  | _, _ => (false, ([], []))

def s140 : Go.Abs.Spec := fun args blk => match args, blk with
  | [.one (.int .i64 n)], [] => (true, ([.one (.bool false)], []))
  | _, _ => (false, ([], []))

def s127 : Go.Abs.Spec := fun args blk => match args, blk with
  | [.one (.int .i64 x), .one (.int .i64 y)], [] => (true, ([.one (.int .i64 (cmpI x y))], []))
  | _, _ => (false, ([], []))

def s126 : Go.Abs.Spec := fun args blk => match args, blk with
  | [.one (.sl false 3 l)], [] => ((decide (l.length < 9223372036854775808)), ([.one (.int .i64 (orI1 l))], []))
  | _, _ => (false, ([], []))

def s108 : Go.Abs.Spec := fun args blk => match args, blk with
  | [.agg [.int .i64 ap, .int .i64 np, .sl false 89 cp], .agg [.int .i64 aq, .int .i64 nq, .sl false 89 cq]], [] => (true, ([.one (.int .i64 (cmpP ap np aq nq))], []))
  | _, _ => (false, ([], []))

def s113 : Go.Abs.Spec := fun args blk => match args, blk with
  | [.agg [.int .i64 ap, .int .i64 np, .sl false 89 cp], .agg [.int .i64 aq, .int .i64 nq, .sl false 89 cq]], [] => (true, ([.one (.int .i64 (cmpP ap np aq nq))], []))
  | _, _ => (false, ([], []))

def s91 : Go.Abs.Spec := fun args blk => match args, blk with
  | [.agg [.int .i64 ap, .int .i64 np, .sl false 89 cp], .agg [.int .i64 aq, .int .i64 nq, .sl false 89 cq]], [] => ((decide (cp.length < 9223372036854775808)), ([.one (.bool (eqP ap np cp aq nq cq))], []))
  | _, _ => (false, ([], []))

def s76 : Go.Abs.Spec := fun args blk => match args, blk with
  | [.one (.sl false 5 x)], [] => ((okRd x), ([.one (.int .u64 (udec x).1), .one (.int .i64 (udec x).2.1), .one (.int .i64 (udec x).2.2)], []))
  | _, _ => (false, ([], []))

def s85 : Go.Abs.Spec := fun args blk => match args, blk with
  | [.one (.sl false 5 x)], [] => ((okRd x), ([.one (.int .u64 (udec x).1), .one (.int .i64 (udec x).2.1), .one (.int .i64 (udec x).2.2)], []))
  | _, _ => (false, ([], []))

def s134 : Go.Abs.Spec := fun args blk => match args, blk with
  | [.one (.ptr 0 0)], [.var [.sl false 5 b, .int .i64 o, .int .i64 e]] => ((okAt b o), ([.one (.int .i64 (rnum b o e).1)], [.var [.sl false 5 b, .int .i64 (rnum b o e).2.1, .int .i64 (rnum b o e).2.2]]))
  | _, _ => (false, ([], []))

def s116 : Go.Abs.Spec := fun args blk => match args, blk with
  | [.one (.sl false 5 x)], [] => ((okRd x), ([.agg [.int .i64 (decP x).1, .int .i64 (decP x).2.1, .sl true 89 (decP x).2.2.1], .one (.int .i64 (decP x).2.2.2.1), .one (.int .i64 (decP x).2.2.2.2)], []))
  | _, _ => (false, ([], []))

def s33 : Go.Abs.Spec := fun args blk => match args, blk with
  | [.one (.sl false 5 x)], [] => ((okRd x), ([.one (.int .i64 (rnum2 x).1), .one (.int .i64 (rnum2 x).2.1), .one (.int .i64 (rnum2 x).2.2)], []))
  | _, _ => (false, ([], []))

def s34 : Go.Abs.Spec := fun args blk => match args, blk with
  | [.one (.sl false 5 x), .one (.int .i64 c)], [] => ((okRd x && decide (c ≤ 1000)), ([.one (.sl true 3 (rread x c).1), .one (.int .i64 (rread x c).2.1), .one (.int .i64 (rread x c).2.2)], []))
  | _, _ => (false, ([], []))

def s119 : Go.Abs.Spec := fun args blk => match args, blk with
  | [.one (.sl false 5 x)], [] => ((okRd x), ([.agg [.int .i64 (decP x).1, .int .i64 (decP x).2.1, .sl true 89 (decP x).2.2.1], .one (.int .i64 (decP x).2.2.2.1), .one (.int .i64 (decP x).2.2.2.2)], []))
  | _, _ => (false, ([], []))

def s61 : Go.Abs.Spec := fun args blk => match args, blk with
  | [.one (.sl false 93 c)], [] => ((okRows c), ([.one (.int .i64 (vCfg c))], []))
  | _, _ => (false, ([], []))

def s70 : Go.Abs.Spec := fun args blk => match args, blk with
  | [.one (.sl false 93 c)], [] => ((okRows c), ([.one (.int .i64 (vCfg c))], []))
  | _, _ => (false, ([], []))

def s38 : Go.Abs.Spec := fun args blk => match args, blk with
  | [.one (.sl false 93 c), .one (.sl false 93 d)], [] => ((okRows c), ([.one (.bool (eqCfg c d))], []))
  | _, _ => (false, ([], []))

def s78 : Go.Abs.Spec := fun args blk => match args, blk with
  | [.one (.sl false 5 x)], [] => ((okRd x), ([.one (.sl true 93 (decC x).1), .one (.int .i64 (decC x).2.1), .one (.int .i64 (decC x).2.2)], []))
  | _, _ => (false, ([], []))

def s86 : Go.Abs.Spec := fun args blk => match args, blk with
  | [.one (.sl false 5 x)], [] => ((okRd x), ([.one (.sl true 93 (decC x).1), .one (.int .i64 (decC x).2.1), .one (.int .i64 (decC x).2.2)], []))
  | _, _ => (false, ([], []))

def s40 : Go.Abs.Spec := fun args blk => match args, blk with
  | [.one (.sl false 103 v), .one (.sl false 103 w)], [] => ((okLn v), ([.one (.bool (eqVec v w))], []))
  | _, _ => (false, ([], []))

def s27 : Go.Abs.Spec := fun args blk => match args, blk with
  | [.one (.sl false 103 v)], [] => ((okLn v), ([.one (.int .i64 (vVec v))], []))
  | _, _ => (false, ([], []))

def s144 : Go.Abs.Spec := fun args blk => match args, blk with
  | [.agg [.int .i64 k1, .int .i64 s1, .int .i64 w1, .int .i64 v1, .int .i64 rk1, .int .i64 rc1, .int .i64 rf1], .agg [.int .i64 k2, .int .i64 s2, .int .i64 w2, .int .i64 v2, .int .i64 rk2, .int .i64 rc2, .int .i64 rf2]], [] => (true, ([.one (.bool (eqCh k1 s1 w1 v1 rk1 rc1 rf1 k2 s2 w2 v2 rk2 rc2 rf2))], []))
  | _, _ => (false, ([], []))

def s132 : Go.Abs.Spec := fun args blk => match args, blk with
  | [.agg [.int .i64 ap, .int .i64 np, .sl false 89 cp], .agg [.int .i64 aq, .int .i64 nq, .sl false 89 cq]], [] => ((decide (cp.length < 9223372036854775808)), ([.one (.bool (eqP ap np cp aq nq cq))], []))
  | _, _ => (false, ([], []))

def s131 : Go.Abs.Spec := fun args blk => match args, blk with
  | [.agg [.int .i64 aq, .int .i64 nq, .sl false 89 cq], .one (.ptr 0 0)], [.var [.int .i64 a, .int .i64 n, .sl false 89 l]] => ((decide (l.length < 9223372036854775808)), ([.one (.bool (eqP a n l aq nq cq))], [.var [.int .i64 a, .int .i64 n, .sl false 89 l]]))
  | _, _ => (false, ([], []))

def s143 : Go.Abs.Spec := fun args blk => match args, blk with
  | [.one (.sl false 93 c), .one (.fn 131 [.ptr 0 0])], [.var [.int .i64 a, .int .i64 n, .sl false 89 l]] => ((okRows c && decide (l.length < 9223372036854775808)), ([.one (.int .i64 (idxP a n l c))], [.var [.int .i64 a, .int .i64 n, .sl false 89 l]]))
  | _, _ => (false, ([], []))

def s130 : Go.Abs.Spec := fun args blk => match args, blk with
  | [.one (.sl false 93 c), .one (.fn 131 [.ptr 0 0])], [.var [.int .i64 a, .int .i64 n, .sl false 89 l]] => ((okRows c && decide (l.length < 9223372036854775808)), ([.one (.bool (inP a n l c))], [.var [.int .i64 a, .int .i64 n, .sl false 89 l]]))
  | _, _ => (false, ([], []))

def s111 : Go.Abs.Spec := fun args blk => match args, blk with
  | [.one (.sl false 93 c), .one (.sl false 93 d)], [] => ((okRows c && okRows d), ([.one (.bool (incl c d))], []))
  | _, _ => (false, ([], []))

def s72 : Go.Abs.Spec := fun args blk => match args, blk with
  | [.one (.sl false 93 c), .one (.sl false 93 d)], [] => ((okRows c && okRows d), ([.one (.bool (incl c d))], []))
  | _, _ => (false, ([], []))

def s63 : Go.Abs.Spec := fun args blk => match args, blk with
  | [.agg [.sl false 93 f1, .sl false 93 t1]], [] => ((okRows f1 && okRows t1), ([.one (.int .i64 (vCert f1 t1))], []))
  | _, _ => (false, ([], []))

def s26 : Go.Abs.Spec := fun args blk => match args, blk with
  | [.agg [.sl false 93 f1, .sl false 93 t1]], [] => ((okRows f1 && okRows t1), ([.one (.int .i64 (vCert f1 t1))], []))
  | _, _ => (false, ([], []))

def s37 : Go.Abs.Spec := fun args blk => match args, blk with
  | [.agg [.sl false 93 f1, .sl false 93 t1], .agg [.sl false 93 f2, .sl false 93 t2]], [] => ((okRows f1 && okRows t1), ([.one (.bool (eqCfg f1 f2 && eqCfg t1 t2))], []))
  | _, _ => (false, ([], []))

def s81 : Go.Abs.Spec := fun args blk => match args, blk with
  | [.one (.sl false 5 x)], [] => ((okRd x), ([.agg [.sl true 93 (decT x).1, .sl true 93 (decT x).2.1], .one (.int .i64 (decT x).2.2.1), .one (.int .i64 (decT x).2.2.2)], []))
  | _, _ => (false, ([], []))

def s89 : Go.Abs.Spec := fun args blk => match args, blk with
  | [.one (.sl false 5 x)], [] => ((okRd x), ([.agg [.sl false 93 (decT x).1, .sl false 93 (decT x).2.1], .one (.int .i64 (decT x).2.2.1), .one (.int .i64 (decT x).2.2.2)], []))
  | _, _ => (false, ([], []))

def s66 : Go.Abs.Spec := fun args blk => match args, blk with
  | [.one (.int .i64 n)], [] => (true, ([.one (.bool (isClient n))], []))
  | _, _ => (false, ([], []))

def s151 : Go.Abs.Spec := fun args blk => match args, blk with
  | [.one (.str s)], [] => (true, ([.one (.bool (s.isEmpty))], []))
  | _, _ => (false, ([], []))

def s141 : Go.Abs.Spec := fun args blk => match args, blk with
  | [.agg [.int .i64 k1, .str o1, .str f1, .int .i64 n1, .str s1]], [] => (true, ([.one (.int .i64 (vEff k1 o1 f1 n1 s1))], []))
  | _, _ => (false, ([], []))

def s114 : Go.Abs.Spec := fun args blk => match args, blk with
  | [.agg [.int .i64 k1, .str o1, .str f1, .int .i64 n1, .str s1]], [] => (true, ([.one (.int .i64 (vEff k1 o1 f1 n1 s1))], []))
  | _, _ => (false, ([], []))

def s153 : Go.Abs.Spec := fun args blk => match args, blk with
  | [.agg [.int .i64 k1, .str o1, .str f1, .int .i64 n1, .str s1]], [] => (true, ([.one (.bool (k1 == 1))], []))
  | _, _ => (false, ([], []))

def s156 : Go.Abs.Spec := fun args blk => match args, blk with
  | [.one (.sl false 136 l), .one (.fn 153 [])], [] => ((decide (l.length < 9223372036854775808)), ([.one (.int .i64 (idxW l))], []))
  | _, _ => (false, ([], []))

def s152 : Go.Abs.Spec := fun args blk => match args, blk with
  | [.one (.sl false 136 l), .one (.fn 153 [])], [] => ((decide (l.length < 9223372036854775808)), ([.one (.bool (!(comm l)))], []))
  | _, _ => (false, ([], []))

def s142 : Go.Abs.Spec := fun args blk => match args, blk with
  | [.agg [.int .i64 cu, .int .i64 qu, .int .i64 tu, .sl false 136 eu]], [] => ((decide (eu.length < 9223372036854775808)), ([.one (.bool (comm eu))], []))
  | _, _ => (false, ([], []))

def s115 : Go.Abs.Spec := fun args blk => match args, blk with
  | [.agg [.int .i64 cu, .int .i64 qu, .int .i64 tu, .sl false 136 eu]], [] => ((decide (eu.length < 9223372036854775808)), ([.one (.bool (comm eu))], []))
  | _, _ => (false, ([], []))

def s128 : Go.Abs.Spec := fun args blk => match args, blk with
  | [.agg [.int .i64 cu, .int .i64 qu, .int .i64 tu, .sl false 136 eu]], [] => (true, ([.one (.int .i64 (vUpd cu qu tu eu))], []))
  | _, _ => (false, ([], []))

def s73 : Go.Abs.Spec := fun args blk => match args, blk with
  | [.agg [.int .i64 cu, .int .i64 qu, .int .i64 tu, .sl false 136 eu]], [] => (true, ([.one (.int .i64 (vUpd cu qu tu eu))], []))
  | _, _ => (false, ([], []))

def s129 : Go.Abs.Spec := fun args blk => match args, blk with
  | [.agg [.int .i64 cu, .int .i64 qu, .int .i64 tu, .sl false 136 eu], .agg [.int .i64 cv, .int .i64 qv, .int .i64 tv, .sl false 136 ev]], [] => (true, ([.one (.int .i64 (cmpU cu qu cv qv))], []))
  | _, _ => (false, ([], []))

def s74 : Go.Abs.Spec := fun args blk => match args, blk with
  | [.agg [.int .i64 cu, .int .i64 qu, .int .i64 tu, .sl false 136 eu], .agg [.int .i64 cv, .int .i64 qv, .int .i64 tv, .sl false 136 ev]], [] => (true, ([.one (.int .i64 (cmpU cu qu cv qv))], []))
  | _, _ => (false, ([], []))

def s92 : Go.Abs.Spec := fun args blk => match args, blk with
  | [.agg [.int .i64 cu, .int .i64 qu, .int .i64 tu, .sl false 136 eu], .agg [.int .i64 cv, .int .i64 qv, .int .i64 tv, .sl false 136 ev]], [] => ((decide (eu.length < 9223372036854775808)), ([.one (.bool (eqU cu qu tu eu cv qv tv ev))], []))
  | _, _ => (false, ([], []))

def s155 : Go.Abs.Spec := fun args blk => match args, blk with
  | [.one (.sl false 5 x)], [] => ((okRd x), ([.one (.int .i64 (idec x).1), .one (.int .i64 (idec x).2.1), .one (.int .i64 (idec x).2.2)], []))
  | _, _ => (false, ([], []))

def s150 : Go.Abs.Spec := fun args blk => match args, blk with
  | [.one (.sl false 5 x)], [] => ((okRd x), ([.one (.int .i64 (idec x).1), .one (.int .i64 (idec x).2.1), .one (.int .i64 (idec x).2.2)], []))
  | _, _ => (false, ([], []))

def s154 : Go.Abs.Spec := fun args blk => match args, blk with
  | [.one (.sl false 5 x)], [] => ((okRd x), ([.one (.str (sdec x).1), .one (.int .i64 (sdec x).2.1), .one (.int .i64 (sdec x).2.2)], []))
  | _, _ => (false, ([], []))

def s149 : Go.Abs.Spec := fun args blk => match args, blk with
  | [.one (.sl false 5 x)], [] => ((okRd x), ([.one (.str (sdec x).1), .one (.int .i64 (sdec x).2.1), .one (.int .i64 (sdec x).2.2)], []))
  | _, _ => (false, ([], []))

def s146 : Go.Abs.Spec := fun args blk => match args, blk with
  | [.one (.ptr 0 0), .one (.int .i64 n), .one (.int .i64 z)], [.var [.sl false 5 b, .int .i64 o, .int .i64 e]] => ((okTake o n), ([], [.var [.sl false 5 b, .int .i64 (o + n), .int .i64 z]]))
  | _, _ => (false, ([], []))

def s135 : Go.Abs.Spec := fun args blk => match args, blk with
  | [.one (.ptr 0 0)], [.var [.sl false 5 b, .int .i64 o, .int .i64 e]] => ((okAt b o), ([.one (.int .i64 (rnum b o e).1)], [.var [.sl false 5 b, .int .i64 (rnum b o e).2.1, .int .i64 (rnum b o e).2.2]]))
  | _, _ => (false, ([], []))

def s147 : Go.Abs.Spec := fun args blk => match args, blk with
  | [.one (.ptr 0 0)], [.var [.sl false 5 b, .int .i64 o, .int .i64 e]] => ((okAt b o), ([.one (.str (rtext b o e).1)], [.var [.sl false 5 b, .int .i64 (rtext b o e).2.1, .int .i64 (rtext b o e).2.2]]))
  | _, _ => (false, ([], []))

def s148 : Go.Abs.Spec := fun args blk => match args, blk with
  | [.one (.ptr 0 0)], [.var [.sl false 5 b, .int .i64 o, .int .i64 e]] => ((okAt b o), ([.one (.int .i64 (rint b o e).1)], [.var [.sl false 5 b, .int .i64 (rint b o e).2.1, .int .i64 (rint b o e).2.2]]))
  | _, _ => (false, ([], []))

def s136 : Go.Abs.Spec := fun args blk => match args, blk with
  | [.one (.ptr 0 0)], [.var [.sl false 5 b, .int .i64 o, .int .i64 e]] => ((okAt b o), ([.agg [.int .i64 (reff b o e).1.1, .str (reff b o e).1.2.1, .str (reff b o e).1.2.2.1, .int .i64 (reff b o e).1.2.2.2.1, .str (reff b o e).1.2.2.2.2]], [.var [.sl false 5 b, .int .i64 (reff b o e).2.1, .int .i64 (reff b o e).2.2]]))
  | _, _ => (false, ([], []))

def s118 : Go.Abs.Spec := fun args blk => match args, blk with
  | [.one (.sl false 5 x)], [] => ((okRd x), ([.agg [.int .i64 (decU x).1, .int .i64 (decU x).2.1, .int .i64 (decU x).2.2.1, .sl true 136 (decU x).2.2.2.1], .one (.int .i64 (decU x).2.2.2.2.1), .one (.int .i64 (decU x).2.2.2.2.2)], []))
  | _, _ => (false, ([], []))

def s137 : Go.Abs.Spec := fun args blk => match args, blk with
  | [.one (.sl false 5 x)], [] => ((okRd x), ([.agg [.int .i64 (deff x).1.1, .str (deff x).1.2.1, .str (deff x).1.2.2.1, .int .i64 (deff x).1.2.2.2.1, .str (deff x).1.2.2.2.2], .one (.int .i64 (deff x).2.1), .one (.int .i64 (deff x).2.2)], []))
  | _, _ => (false, ([], []))

def s120 : Go.Abs.Spec := fun args blk => match args, blk with
  | [.one (.sl false 5 x)], [] => ((okRd x), ([.agg [.int .i64 (decU x).1, .int .i64 (decU x).2.1, .int .i64 (decU x).2.2.1, .sl true 136 (decU x).2.2.2.1], .one (.int .i64 (decU x).2.2.2.2.1), .one (.int .i64 (decU x).2.2.2.2.2)], []))
  | _, _ => (false, ([], []))

def s110 : Go.Abs.Spec := fun args blk => match args, blk with
  | [.one (.sl false 96 c)], [] => ((okLn c), ([.one (.int .i64 (vSt c))], []))
  | _, _ => (false, ([], []))

def s71 : Go.Abs.Spec := fun args blk => match args, blk with
  | [.one (.sl false 96 c)], [] => ((okLn c), ([.one (.int .i64 (vSt c))], []))
  | _, _ => (false, ([], []))

def s39 : Go.Abs.Spec := fun args blk => match args, blk with
  | [.one (.sl false 96 c), .one (.sl false 96 d)], [] => ((okRowsU c), ([.one (.bool (eqSt c d))], []))
  | _, _ => (false, ([], []))

def s87 : Go.Abs.Spec := fun args blk => match args, blk with
  | [.one (.sl false 5 x)], [] => ((okRd x), ([.one (.sl true 96 (decL x).1), .one (.int .i64 (decL x).2.1), .one (.int .i64 (decL x).2.2)], []))
  | _, _ => (false, ([], []))

def s18 : Go.Abs.Spec := fun args blk => match args, blk with
  | [.one (.int .i64 k)], [] => (true, ([.one (.sl false 54 (usedR k)), .one (.bool ((usedL k).isSome))], []))
  | _, _ => (false, ([], []))

def s58 : Go.Abs.Spec := fun args blk => match args, blk with
  | [.one (.int .i64 n)], [] => (true, ([.one (.bool (isUser n))], []))
  | _, _ => (false, ([], []))

def s19 : Go.Abs.Spec := fun args blk => match args, blk with
  | [.one (.int .i64 n)], [] => (true, ([.one (.bool (isProc n))], []))
  | _, _ => (false, ([], []))

def s23 : Go.Abs.Spec := fun args blk => match args, blk with
  | [.one (.int .i64 n)], [] => (true, ([.one (.bool (isProc n))], []))
  | _, _ => (false, ([], []))

def s60 : Go.Abs.Spec := fun args blk => match args, blk with
  | [.agg [.sl false 93 f1, .sl false 93 t1]], [] => (true, ([.one (.bool (noT f1 t1))], []))
  | _, _ => (false, ([], []))

def s69 : Go.Abs.Spec := fun args blk => match args, blk with
  | [.agg [.sl false 93 f1, .sl false 93 t1]], [] => (true, ([.one (.bool (noT f1 t1))], []))
  | _, _ => (false, ([], []))

def s59 : Go.Abs.Spec := fun args blk => match args, blk with
  | [.one (.sl false 54 l), .one (.int .i64 f)], [] => ((decide (l.length < 9223372036854775808)), ([.one (.int .i64 (idxF l f))], []))
  | _, _ => (false, ([], []))

def s20 : Go.Abs.Spec := fun args blk => match args, blk with
  | [.one (.sl false 54 l), .one (.int .i64 f)], [] => ((decide (l.length < 9223372036854775808)), ([.one (.bool (inF l f))], []))
  | _, _ => (false, ([], []))

def s21 : Go.Abs.Spec := fun args blk => match args, blk with
  | [.agg [.int .i64 k1, .int .i64 f1, .int .i64 t1, .int .i64 p1, .int .i64 n1, .int .i64 r1, .int .i64 o1, .sl false 93 cf1, .sl false 93 ct1, .sl false 93 bf1, .sl false 93 bt1, .bool h1, .sl false 93 ef1, .sl false 93 et1, .sl false 93 g1, .sl false 96 u1, .sl false 103 v1, .bool m1], .one (.int .i64 f)], [] => (true, ([.one (.bool (zeroW (Msg.mk k1 f1 t1 p1 n1 r1 o1 cf1 ct1 bf1 bt1 h1 ef1 et1 g1 u1 v1 m1) f))], []))
  | _, _ => (false, ([], []))

def s109 : Go.Abs.Spec := fun args blk => match args, blk with
  | [.one (.sl false 96 c)], [] => ((decide (c.length < 9223372036854775808)), ([.one (.int .i64 (vCh c))], []))
  | _, _ => (false, ([], []))

def s28 : Go.Abs.Spec := fun args blk => match args, blk with
  | [.one (.sl false 96 c)], [] => ((decide (c.length < 9223372036854775808)), ([.one (.int .i64 (vCh c))], []))
  | _, _ => (false, ([], []))

def s62 : Go.Abs.Spec := fun args blk => match args, blk with
  | [.agg [.int .i64 k1, .int .i64 f1, .int .i64 t1, .int .i64 p1, .int .i64 n1, .int .i64 r1, .int .i64 o1, .sl false 93 cf1, .sl false 93 ct1, .sl false 93 bf1, .sl false 93 bt1, .bool h1, .sl false 93 ef1, .sl false 93 et1, .sl false 93 g1, .sl false 96 u1, .sl false 103 v1, .bool m1]], [] => ((okLn u1), ([.one (.int .i64 (vStW (Msg.mk k1 f1 t1 p1 n1 r1 o1 cf1 ct1 bf1 bt1 h1 ef1 et1 g1 u1 v1 m1)))], []))
  | _, _ => (false, ([], []))

def s64 : Go.Abs.Spec := fun args blk => match args, blk with
  | [.one (.sl false 103 v)], [] => ((okLn v), ([.one (.int .i64 (vVec v))], []))
  | _, _ => (false, ([], []))

def s22 : Go.Abs.Spec := fun args blk => match args, blk with
  | [.agg [.int .i64 k1, .int .i64 f1, .int .i64 t1, .int .i64 p1, .int .i64 n1, .int .i64 r1, .int .i64 o1, .sl false 93 cf1, .sl false 93 ct1, .sl false 93 bf1, .sl false 93 bt1, .bool h1, .sl false 93 ef1, .sl false 93 et1, .sl false 93 g1, .sl false 96 u1, .sl false 103 v1, .bool m1], .one (.int .i64 f)], [] => ((okM cf1 ct1 bf1 bt1 ef1 et1 g1 u1 v1), ([.one (.int .i64 (vFieldW (Msg.mk k1 f1 t1 p1 n1 r1 o1 cf1 ct1 bf1 bt1 h1 ef1 et1 g1 u1 v1 m1) f))], []))
  | _, _ => (false, ([], []))

def s8 : Go.Abs.Spec := fun args blk => match args, blk with
  | [.agg [.int .i64 k1, .int .i64 f1, .int .i64 t1, .int .i64 p1, .int .i64 n1, .int .i64 r1, .int .i64 o1, .sl false 93 cf1, .sl false 93 ct1, .sl false 93 bf1, .sl false 93 bt1, .bool h1, .sl false 93 ef1, .sl false 93 et1, .sl false 93 g1, .sl false 96 u1, .sl false 103 v1, .bool m1]], [] => ((okM cf1 ct1 bf1 bt1 ef1 et1 g1 u1 v1), ([.one (.int .i64 (vMsg (Msg.mk k1 f1 t1 p1 n1 r1 o1 cf1 ct1 bf1 bt1 h1 ef1 et1 g1 u1 v1 m1)))], []))
  | _, _ => (false, ([], []))

def s68 : Go.Abs.Spec := fun args blk => match args, blk with
  | [.one (.int .i64 k)], [] => (true, ([.agg [.bool (uA k), .bool (uA k), .bool (k == 1), .bool (uA k), .bool (uS k), .bool (uB k), .bool (!(uA k)), .bool (k == 4), .bool (k == 5)]], []))
  | _, _ => (false, ([], []))

def s24 : Go.Abs.Spec := fun args blk => match args, blk with
  | [.agg [.int .i64 k1, .int .i64 f1, .int .i64 t1, .int .i64 p1, .int .i64 n1, .int .i64 r1, .int .i64 o1, .sl false 93 cf1, .sl false 93 ct1, .sl false 93 bf1, .sl false 93 bt1, .bool h1, .sl false 93 ef1, .sl false 93 et1, .sl false 93 g1, .sl false 96 u1, .sl false 103 v1, .bool m1]], [] => (true, ([.one (.bool (unusedW (Msg.mk k1 f1 t1 p1 n1 r1 o1 cf1 ct1 bf1 bt1 h1 ef1 et1 g1 u1 v1 m1)))], []))
  | _, _ => (false, ([], []))

def s29 : Go.Abs.Spec := fun args blk => match args, blk with
  | [.agg [.int .i64 k1, .int .i64 f1, .int .i64 t1, .int .i64 p1, .int .i64 n1, .int .i64 r1, .int .i64 o1, .sl false 93 cf1, .sl false 93 ct1, .sl false 93 bf1, .sl false 93 bt1, .bool h1, .sl false 93 ef1, .sl false 93 et1, .sl false 93 g1, .sl false 96 u1, .sl false 103 v1, .bool m1]], [] => ((okM cf1 ct1 bf1 bt1 ef1 et1 g1 u1 v1), ([.one (.int .i64 (vBases (Msg.mk k1 f1 t1 p1 n1 r1 o1 cf1 ct1 bf1 bt1 h1 ef1 et1 g1 u1 v1 m1)))], []))
  | _, _ => (false, ([], []))

def s25 : Go.Abs.Spec := fun args blk => match args, blk with
  | [.agg [.int .i64 k1, .int .i64 f1, .int .i64 t1, .int .i64 p1, .int .i64 n1, .int .i64 r1, .int .i64 o1, .sl false 93 cf1, .sl false 93 ct1, .sl false 93 bf1, .sl false 93 bt1, .bool h1, .sl false 93 ef1, .sl false 93 et1, .sl false 93 g1, .sl false 96 u1, .sl false 103 v1, .bool m1]], [] => ((okM cf1 ct1 bf1 bt1 ef1 et1 g1 u1 v1), ([.one (.int .i64 (vExch (Msg.mk k1 f1 t1 p1 n1 r1 o1 cf1 ct1 bf1 bt1 h1 ef1 et1 g1 u1 v1 m1)))], []))
  | _, _ => (false, ([], []))

def s9 : Go.Abs.Spec := fun args blk => match args, blk with
  | [.agg [.int .i64 k1, .int .i64 f1, .int .i64 t1, .int .i64 p1, .int .i64 n1, .int .i64 r1, .int .i64 o1, .sl false 93 cf1, .sl false 93 ct1, .sl false 93 bf1, .sl false 93 bt1, .bool h1, .sl false 93 ef1, .sl false 93 et1, .sl false 93 g1, .sl false 96 u1, .sl false 103 v1, .bool m1]], [] => ((okM cf1 ct1 bf1 bt1 ef1 et1 g1 u1 v1), ([.one (.int .i64 (vMsg (Msg.mk k1 f1 t1 p1 n1 r1 o1 cf1 ct1 bf1 bt1 h1 ef1 et1 g1 u1 v1 m1)))], []))
  | _, _ => (false, ([], []))

def s84 : Go.Abs.Spec := fun args blk => match args, blk with
  | [.one (.sl false 5 x)], [] => ((okRd x), ([.one (.bool (bdec x).1), .one (.int .i64 (bdec x).2.1), .one (.int .i64 (bdec x).2.2)], []))
  | _, _ => (false, ([], []))

def s90 : Go.Abs.Spec := fun args blk => match args, blk with
  | [.one (.sl false 5 x)], [] => ((okRd x), ([.one (.bool (bdec x).1), .one (.int .i64 (bdec x).2.1), .one (.int .i64 (bdec x).2.2)], []))
  | _, _ => (false, ([], []))

def s75 : Go.Abs.Spec := fun args blk => match args, blk with
  | [.one (.ptr 0 0), .one (.fn 76 [])], [.var [.sl false 5 b, .int .i64 o, .int .i64 e]] => ((okAt b o), ([.one (.int .u64 (rstep 0 udec b o e).1)], [.var [.sl false 5 b, .int .i64 (rstep 0 udec b o e).2.1, .int .i64 (rstep 0 udec b o e).2.2]]))
  | _, _ => (false, ([], []))

def s31 : Go.Abs.Spec := fun args blk => match args, blk with
  | [.one (.ptr 0 0), .one (.bool w), .one (.int .i64 k)], [.var [.sl false 5 b, .int .i64 o, .int .i64 e]] => (true, ([], [.var [.sl false 5 b, .int .i64 o, .int .i64 (failE w k e)]]))
  | _, _ => (false, ([], []))

def s30 : Go.Abs.Spec := fun args blk => match args, blk with
  | [.one (.ptr 0 0)], [.var [.sl false 5 b, .int .i64 o, .int .i64 e]] => ((okAt b o), ([.one (.int .i64 (rnumM b o e).1)], [.var [.sl false 5 b, .int .i64 (rnumM b o e).2.1, .int .i64 (rnumM b o e).2.2]]))
  | _, _ => (false, ([], []))

def s77 : Go.Abs.Spec := fun args blk => match args, blk with
  | [.one (.ptr 0 0), .one (.fn 78 [])], [.var [.sl false 5 b, .int .i64 o, .int .i64 e]] => ((okAt b o), ([.one (.sl false 93 (rcfg b o e).1)], [.var [.sl false 5 b, .int .i64 (rcfg b o e).2.1, .int .i64 (rcfg b o e).2.2]]))
  | _, _ => (false, ([], []))

def s80 : Go.Abs.Spec := fun args blk => match args, blk with
  | [.one (.ptr 0 0), .one (.fn 81 [])], [.var [.sl false 5 b, .int .i64 o, .int .i64 e]] => ((okAt b o), ([.agg [.sl false 93 (rcert b o e).1.1, .sl false 93 (rcert b o e).1.2]], [.var [.sl false 5 b, .int .i64 (rcert b o e).2.1, .int .i64 (rcert b o e).2.2]]))
  | _, _ => (false, ([], []))

def s117 : Go.Abs.Spec := fun args blk => match args, blk with
  | [.one (.ptr 0 0), .one (.fn 118 [])], [.var [.sl false 5 b, .int .i64 o, .int .i64 e]] => ((okAt b o), ([.agg [.int .i64 (rupd b o e).1.1, .int .i64 (rupd b o e).1.2.1, .int .i64 (rupd b o e).1.2.2.1, .sl false 136 (rupd b o e).1.2.2.2]], [.var [.sl false 5 b, .int .i64 (rupd b o e).2.1, .int .i64 (rupd b o e).2.2]]))
  | _, _ => (false, ([], []))

def s83 : Go.Abs.Spec := fun args blk => match args, blk with
  | [.one (.ptr 0 0), .one (.fn 84 [])], [.var [.sl false 5 b, .int .i64 o, .int .i64 e]] => ((okAt b o), ([.one (.bool (rbool b o e).1)], [.var [.sl false 5 b, .int .i64 (rbool b o e).2.1, .int .i64 (rbool b o e).2.2]]))
  | _, _ => (false, ([], []))

def s79 : Go.Abs.Spec := fun args blk => match args, blk with
  | [.one (.ptr 0 0)], [.var [.sl false 5 b, .int .i64 o, .int .i64 e]] => ((okAt b o), ([.one (.sl false 96 (rst b o e).1)], [.var [.sl false 5 b, .int .i64 (rst b o e).2.1, .int .i64 (rst b o e).2.2]]))
  | _, _ => (false, ([], []))

def s82 : Go.Abs.Spec := fun args blk => match args, blk with
  | [.one (.ptr 0 0)], [.var [.sl false 5 b, .int .i64 o, .int .i64 e]] => ((okAt b o), ([.one (.sl false 103 (rvc b o e).1)], [.var [.sl false 5 b, .int .i64 (rvc b o e).2.1, .int .i64 (rvc b o e).2.2]]))
  | _, _ => (false, ([], []))

def s32 : Go.Abs.Spec := fun args blk => match args, blk with
  | [.one (.ptr 0 0), .one (.ptr 1 0), .one (.int .i64 f)], [.var [.sl false 5 b, .int .i64 o, .int .i64 e], .var [.int .i64 k1, .int .i64 f1, .int .i64 t1, .int .i64 p1, .int .i64 n1, .int .i64 r1, .int .i64 o1, .sl false 93 cf1, .sl false 93 ct1, .sl false 93 bf1, .sl false 93 bt1, .bool h1, .sl false 93 ef1, .sl false 93 et1, .sl false 93 g1, .sl false 96 u1, .sl false 103 v1, .bool m1]] => ((okAt b o), ([], [.var [.sl false 5 b, .int .i64 (rdF b o e (Msg.mk k1 f1 t1 p1 n1 r1 o1 cf1 ct1 bf1 bt1 h1 ef1 et1 g1 u1 v1 m1) f).2.1, .int .i64 (rdF b o e (Msg.mk k1 f1 t1 p1 n1 r1 o1 cf1 ct1 bf1 bt1 h1 ef1 et1 g1 u1 v1 m1) f).2.2], .var [.int .i64 (rdF b o e (Msg.mk k1 f1 t1 p1 n1 r1 o1 cf1 ct1 bf1 bt1 h1 ef1 et1 g1 u1 v1 m1) f).1.k, .int .i64 (rdF b o e (Msg.mk k1 f1 t1 p1 n1 r1 o1 cf1 ct1 bf1 bt1 h1 ef1 et1 g1 u1 v1 m1) f).1.f, .int .i64 (rdF b o e (Msg.mk k1 f1 t1 p1 n1 r1 o1 cf1 ct1 bf1 bt1 h1 ef1 et1 g1 u1 v1 m1) f).1.t, .int .i64 (rdF b o e (Msg.mk k1 f1 t1 p1 n1 r1 o1 cf1 ct1 bf1 bt1 h1 ef1 et1 g1 u1 v1 m1) f).1.p, .int .i64 (rdF b o e (Msg.mk k1 f1 t1 p1 n1 r1 o1 cf1 ct1 bf1 bt1 h1 ef1 et1 g1 u1 v1 m1) f).1.n, .int .i64 (rdF b o e (Msg.mk k1 f1 t1 p1 n1 r1 o1 cf1 ct1 bf1 bt1 h1 ef1 et1 g1 u1 v1 m1) f).1.r, .int .i64 (rdF b o e (Msg.mk k1 f1 t1 p1 n1 r1 o1 cf1 ct1 bf1 bt1 h1 ef1 et1 g1 u1 v1 m1) f).1.o, .sl false 93 (rdF b o e (Msg.mk k1 f1 t1 p1 n1 r1 o1 cf1 ct1 bf1 bt1 h1 ef1 et1 g1 u1 v1 m1) f).1.cf, .sl false 93 (rdF b o e (Msg.mk k1 f1 t1 p1 n1 r1 o1 cf1 ct1 bf1 bt1 h1 ef1 et1 g1 u1 v1 m1) f).1.ct, .sl false 93 (rdF b o e (Msg.mk k1 f1 t1 p1 n1 r1 o1 cf1 ct1 bf1 bt1 h1 ef1 et1 g1 u1 v1 m1) f).1.bf, .sl false 93 (rdF b o e (Msg.mk k1 f1 t1 p1 n1 r1 o1 cf1 ct1 bf1 bt1 h1 ef1 et1 g1 u1 v1 m1) f).1.bt, .bool (rdF b o e (Msg.mk k1 f1 t1 p1 n1 r1 o1 cf1 ct1 bf1 bt1 h1 ef1 et1 g1 u1 v1 m1) f).1.h, .sl false 93 (rdF b o e (Msg.mk k1 f1 t1 p1 n1 r1 o1 cf1 ct1 bf1 bt1 h1 ef1 et1 g1 u1 v1 m1) f).1.ef, .sl false 93 (rdF b o e (Msg.mk k1 f1 t1 p1 n1 r1 o1 cf1 ct1 bf1 bt1 h1 ef1 et1 g1 u1 v1 m1) f).1.et, .sl false 93 (rdF b o e (Msg.mk k1 f1 t1 p1 n1 r1 o1 cf1 ct1 bf1 bt1 h1 ef1 et1 g1 u1 v1 m1) f).1.g, .sl false 96 (rdF b o e (Msg.mk k1 f1 t1 p1 n1 r1 o1 cf1 ct1 bf1 bt1 h1 ef1 et1 g1 u1 v1 m1) f).1.u, .sl false 103 (rdF b o e (Msg.mk k1 f1 t1 p1 n1 r1 o1 cf1 ct1 bf1 bt1 h1 ef1 et1 g1 u1 v1 m1) f).1.v, .bool (rdF b o e (Msg.mk k1 f1 t1 p1 n1 r1 o1 cf1 ct1 bf1 bt1 h1 ef1 et1 g1 u1 v1 m1) f).1.m]]))
  | _, _ => (false, ([], []))

def s10 : Go.Abs.Spec := fun args blk => match args, blk with
  | [.one (.sl false 5 x)], [] => ((okRd x), ([.agg [.int .i64 (decM x).1.k, .int .i64 (decM x).1.f, .int .i64 (decM x).1.t, .int .i64 (decM x).1.p, .int .i64 (decM x).1.n, .int .i64 (decM x).1.r, .int .i64 (decM x).1.o, .sl false 93 (decM x).1.cf, .sl false 93 (decM x).1.ct, .sl false 93 (decM x).1.bf, .sl false 93 (decM x).1.bt, .bool (decM x).1.h, .sl false 93 (decM x).1.ef, .sl false 93 (decM x).1.et, .sl false 93 (decM x).1.g, .sl false 96 (decM x).1.u, .sl false 103 (decM x).1.v, .bool (decM x).1.m], .one (.int .i64 (decM x).2.1), .one (.int .i64 (decM x).2.2)], []))
  | _, _ => (false, ([], []))

def s88 : Go.Abs.Spec := fun args blk => match args, blk with
  | [.agg [.int .i64 k1, .int .i64 f1, .int .i64 t1, .int .i64 p1, .int .i64 n1, .int .i64 r1, .int .i64 o1, .sl false 93 cf1, .sl false 93 ct1, .sl false 93 bf1, .sl false 93 bt1, .bool h1, .sl false 93 ef1, .sl false 93 et1, .sl false 93 g1, .sl false 96 u1, .sl false 103 v1, .bool m1], .one (.sl false 5 x)], [] => ((okRd x), ([.agg [.int .i64 (rbW (Msg.mk k1 f1 t1 p1 n1 r1 o1 cf1 ct1 bf1 bt1 h1 ef1 et1 g1 u1 v1 m1) x).1.k, .int .i64 (rbW (Msg.mk k1 f1 t1 p1 n1 r1 o1 cf1 ct1 bf1 bt1 h1 ef1 et1 g1 u1 v1 m1) x).1.f, .int .i64 (rbW (Msg.mk k1 f1 t1 p1 n1 r1 o1 cf1 ct1 bf1 bt1 h1 ef1 et1 g1 u1 v1 m1) x).1.t, .int .i64 (rbW (Msg.mk k1 f1 t1 p1 n1 r1 o1 cf1 ct1 bf1 bt1 h1 ef1 et1 g1 u1 v1 m1) x).1.p, .int .i64 (rbW (Msg.mk k1 f1 t1 p1 n1 r1 o1 cf1 ct1 bf1 bt1 h1 ef1 et1 g1 u1 v1 m1) x).1.n, .int .i64 (rbW (Msg.mk k1 f1 t1 p1 n1 r1 o1 cf1 ct1 bf1 bt1 h1 ef1 et1 g1 u1 v1 m1) x).1.r, .int .i64 (rbW (Msg.mk k1 f1 t1 p1 n1 r1 o1 cf1 ct1 bf1 bt1 h1 ef1 et1 g1 u1 v1 m1) x).1.o, .sl false 93 (rbW (Msg.mk k1 f1 t1 p1 n1 r1 o1 cf1 ct1 bf1 bt1 h1 ef1 et1 g1 u1 v1 m1) x).1.cf, .sl false 93 (rbW (Msg.mk k1 f1 t1 p1 n1 r1 o1 cf1 ct1 bf1 bt1 h1 ef1 et1 g1 u1 v1 m1) x).1.ct, .sl false 93 (rbW (Msg.mk k1 f1 t1 p1 n1 r1 o1 cf1 ct1 bf1 bt1 h1 ef1 et1 g1 u1 v1 m1) x).1.bf, .sl false 93 (rbW (Msg.mk k1 f1 t1 p1 n1 r1 o1 cf1 ct1 bf1 bt1 h1 ef1 et1 g1 u1 v1 m1) x).1.bt, .bool (rbW (Msg.mk k1 f1 t1 p1 n1 r1 o1 cf1 ct1 bf1 bt1 h1 ef1 et1 g1 u1 v1 m1) x).1.h, .sl false 93 (rbW (Msg.mk k1 f1 t1 p1 n1 r1 o1 cf1 ct1 bf1 bt1 h1 ef1 et1 g1 u1 v1 m1) x).1.ef, .sl false 93 (rbW (Msg.mk k1 f1 t1 p1 n1 r1 o1 cf1 ct1 bf1 bt1 h1 ef1 et1 g1 u1 v1 m1) x).1.et, .sl false 93 (rbW (Msg.mk k1 f1 t1 p1 n1 r1 o1 cf1 ct1 bf1 bt1 h1 ef1 et1 g1 u1 v1 m1) x).1.g, .sl false 96 (rbW (Msg.mk k1 f1 t1 p1 n1 r1 o1 cf1 ct1 bf1 bt1 h1 ef1 et1 g1 u1 v1 m1) x).1.u, .sl false 103 (rbW (Msg.mk k1 f1 t1 p1 n1 r1 o1 cf1 ct1 bf1 bt1 h1 ef1 et1 g1 u1 v1 m1) x).1.v, .bool (rbW (Msg.mk k1 f1 t1 p1 n1 r1 o1 cf1 ct1 bf1 bt1 h1 ef1 et1 g1 u1 v1 m1) x).1.m], .one (.int .i64 (rbW (Msg.mk k1 f1 t1 p1 n1 r1 o1 cf1 ct1 bf1 bt1 h1 ef1 et1 g1 u1 v1 m1) x).2.1), .one (.int .i64 (rbW (Msg.mk k1 f1 t1 p1 n1 r1 o1 cf1 ct1 bf1 bt1 h1 ef1 et1 g1 u1 v1 m1) x).2.2)], []))
  | _, _ => (false, ([], []))

def s35 : Go.Abs.Spec := fun args blk => match args, blk with
  | [.agg [.int .i64 k1, .int .i64 f1, .int .i64 t1, .int .i64 p1, .int .i64 n1, .int .i64 r1, .int .i64 o1, .nils, .nils, .nils, .nils, .bool h1, .nils, .nils, .nils, .nils, .nils, .bool m1], .one (.sl false 5 x)], [] => ((okRd x), ([.agg [.int .i64 (rxW (Msg.mk k1 f1 t1 p1 n1 r1 o1 [] [] [] [] h1 [] [] [] [] [] m1) x).1.k, .int .i64 (rxW (Msg.mk k1 f1 t1 p1 n1 r1 o1 [] [] [] [] h1 [] [] [] [] [] m1) x).1.f, .int .i64 (rxW (Msg.mk k1 f1 t1 p1 n1 r1 o1 [] [] [] [] h1 [] [] [] [] [] m1) x).1.t, .int .i64 (rxW (Msg.mk k1 f1 t1 p1 n1 r1 o1 [] [] [] [] h1 [] [] [] [] [] m1) x).1.p, .int .i64 (rxW (Msg.mk k1 f1 t1 p1 n1 r1 o1 [] [] [] [] h1 [] [] [] [] [] m1) x).1.n, .int .i64 (rxW (Msg.mk k1 f1 t1 p1 n1 r1 o1 [] [] [] [] h1 [] [] [] [] [] m1) x).1.r, .int .i64 (rxW (Msg.mk k1 f1 t1 p1 n1 r1 o1 [] [] [] [] h1 [] [] [] [] [] m1) x).1.o, .sl false 93 (rxW (Msg.mk k1 f1 t1 p1 n1 r1 o1 [] [] [] [] h1 [] [] [] [] [] m1) x).1.cf, .sl false 93 (rxW (Msg.mk k1 f1 t1 p1 n1 r1 o1 [] [] [] [] h1 [] [] [] [] [] m1) x).1.ct, .sl false 93 (rxW (Msg.mk k1 f1 t1 p1 n1 r1 o1 [] [] [] [] h1 [] [] [] [] [] m1) x).1.bf, .sl false 93 (rxW (Msg.mk k1 f1 t1 p1 n1 r1 o1 [] [] [] [] h1 [] [] [] [] [] m1) x).1.bt, .bool (rxW (Msg.mk k1 f1 t1 p1 n1 r1 o1 [] [] [] [] h1 [] [] [] [] [] m1) x).1.h, .sl false 93 (rxW (Msg.mk k1 f1 t1 p1 n1 r1 o1 [] [] [] [] h1 [] [] [] [] [] m1) x).1.ef, .sl false 93 (rxW (Msg.mk k1 f1 t1 p1 n1 r1 o1 [] [] [] [] h1 [] [] [] [] [] m1) x).1.et, .sl false 93 (rxW (Msg.mk k1 f1 t1 p1 n1 r1 o1 [] [] [] [] h1 [] [] [] [] [] m1) x).1.g, .sl false 96 (rxW (Msg.mk k1 f1 t1 p1 n1 r1 o1 [] [] [] [] h1 [] [] [] [] [] m1) x).1.u, .sl false 103 (rxW (Msg.mk k1 f1 t1 p1 n1 r1 o1 [] [] [] [] h1 [] [] [] [] [] m1) x).1.v, .bool (rxW (Msg.mk k1 f1 t1 p1 n1 r1 o1 [] [] [] [] h1 [] [] [] [] [] m1) x).1.m], .one (.int .i64 (rxW (Msg.mk k1 f1 t1 p1 n1 r1 o1 [] [] [] [] h1 [] [] [] [] [] m1) x).2.1), .one (.int .i64 (rxW (Msg.mk k1 f1 t1 p1 n1 r1 o1 [] [] [] [] h1 [] [] [] [] [] m1) x).2.2)], []))
  | _, _ => (false, ([], []))

def s36 : Go.Abs.Spec := fun args blk => match args, blk with
  | [.agg [.int .i64 k1, .int .i64 f1, .int .i64 t1, .int .i64 p1, .int .i64 n1, .int .i64 r1, .int .i64 o1, .nils, .nils, .nils, .nils, .bool h1, .nils, .nils, .nils, .nils, .nils, .bool m1], .one (.sl false 5 x)], [] => ((okRd x), ([.agg [.int .i64 (rrW (Msg.mk k1 f1 t1 p1 n1 r1 o1 [] [] [] [] h1 [] [] [] [] [] m1) x).1.k, .int .i64 (rrW (Msg.mk k1 f1 t1 p1 n1 r1 o1 [] [] [] [] h1 [] [] [] [] [] m1) x).1.f, .int .i64 (rrW (Msg.mk k1 f1 t1 p1 n1 r1 o1 [] [] [] [] h1 [] [] [] [] [] m1) x).1.t, .int .i64 (rrW (Msg.mk k1 f1 t1 p1 n1 r1 o1 [] [] [] [] h1 [] [] [] [] [] m1) x).1.p, .int .i64 (rrW (Msg.mk k1 f1 t1 p1 n1 r1 o1 [] [] [] [] h1 [] [] [] [] [] m1) x).1.n, .int .i64 (rrW (Msg.mk k1 f1 t1 p1 n1 r1 o1 [] [] [] [] h1 [] [] [] [] [] m1) x).1.r, .int .i64 (rrW (Msg.mk k1 f1 t1 p1 n1 r1 o1 [] [] [] [] h1 [] [] [] [] [] m1) x).1.o, .sl false 93 (rrW (Msg.mk k1 f1 t1 p1 n1 r1 o1 [] [] [] [] h1 [] [] [] [] [] m1) x).1.cf, .sl false 93 (rrW (Msg.mk k1 f1 t1 p1 n1 r1 o1 [] [] [] [] h1 [] [] [] [] [] m1) x).1.ct, .sl false 93 (rrW (Msg.mk k1 f1 t1 p1 n1 r1 o1 [] [] [] [] h1 [] [] [] [] [] m1) x).1.bf, .sl false 93 (rrW (Msg.mk k1 f1 t1 p1 n1 r1 o1 [] [] [] [] h1 [] [] [] [] [] m1) x).1.bt, .bool (rrW (Msg.mk k1 f1 t1 p1 n1 r1 o1 [] [] [] [] h1 [] [] [] [] [] m1) x).1.h, .sl false 93 (rrW (Msg.mk k1 f1 t1 p1 n1 r1 o1 [] [] [] [] h1 [] [] [] [] [] m1) x).1.ef, .sl false 93 (rrW (Msg.mk k1 f1 t1 p1 n1 r1 o1 [] [] [] [] h1 [] [] [] [] [] m1) x).1.et, .sl false 93 (rrW (Msg.mk k1 f1 t1 p1 n1 r1 o1 [] [] [] [] h1 [] [] [] [] [] m1) x).1.g, .sl false 96 (rrW (Msg.mk k1 f1 t1 p1 n1 r1 o1 [] [] [] [] h1 [] [] [] [] [] m1) x).1.u, .sl false 103 (rrW (Msg.mk k1 f1 t1 p1 n1 r1 o1 [] [] [] [] h1 [] [] [] [] [] m1) x).1.v, .bool (rrW (Msg.mk k1 f1 t1 p1 n1 r1 o1 [] [] [] [] h1 [] [] [] [] [] m1) x).1.m], .one (.int .i64 (rrW (Msg.mk k1 f1 t1 p1 n1 r1 o1 [] [] [] [] h1 [] [] [] [] [] m1) x).2.1), .one (.int .i64 (rrW (Msg.mk k1 f1 t1 p1 n1 r1 o1 [] [] [] [] h1 [] [] [] [] [] m1) x).2.2)], []))
  | _, _ => (false, ([], []))

def s11 : Go.Abs.Spec := fun args blk => match args, blk with
  | [.one (.sl false 5 x)], [] => ((okRd x), ([.agg [.int .i64 (decM x).1.k, .int .i64 (decM x).1.f, .int .i64 (decM x).1.t, .int .i64 (decM x).1.p, .int .i64 (decM x).1.n, .int .i64 (decM x).1.r, .int .i64 (decM x).1.o, .sl false 93 (decM x).1.cf, .sl false 93 (decM x).1.ct, .sl false 93 (decM x).1.bf, .sl false 93 (decM x).1.bt, .bool (decM x).1.h, .sl false 93 (decM x).1.ef, .sl false 93 (decM x).1.et, .sl false 93 (decM x).1.g, .sl false 96 (decM x).1.u, .sl false 103 (decM x).1.v, .bool (decM x).1.m], .one (.int .i64 (decM x).2.1), .one (.int .i64 (decM x).2.2)], []))
  | _, _ => (false, ([], []))

def s12 : Go.Abs.Spec := fun args blk => match args, blk with
  | [.agg [.int .i64 k1, .int .i64 f1, .int .i64 t1, .int .i64 p1, .int .i64 n1, .int .i64 r1, .int .i64 o1, .sl false 93 cf1, .sl false 93 ct1, .sl false 93 bf1, .sl false 93 bt1, .bool h1, .sl false 93 ef1, .sl false 93 et1, .sl false 93 g1, .sl false 96 u1, .sl false 103 v1, .bool m1], .agg [.int .i64 k2, .int .i64 f2, .int .i64 t2, .int .i64 p2, .int .i64 n2, .int .i64 r2, .int .i64 o2, .sl false 93 cf2, .sl false 93 ct2, .sl false 93 bf2, .sl false 93 bt2, .bool h2, .sl false 93 ef2, .sl false 93 et2, .sl false 93 g2, .sl false 96 u2, .sl false 103 v2, .bool m2]], [] => ((okM cf1 ct1 bf1 bt1 ef1 et1 g1 u1 v1), ([.one (.bool (eqM k1 f1 t1 p1 n1 r1 o1 cf1 ct1 bf1 bt1 h1 ef1 et1 g1 u1 v1 m1 k2 f2 t2 p2 n2 r2 o2 cf2 ct2 bf2 bt2 h2 ef2 et2 g2 u2 v2 m2))], []))
  | _, _ => (false, ([], []))

def s6 : Go.Abs.Spec := fun args blk => match args, blk with
  | [.agg [.int .i64 k1, .int .i64 f1, .int .i64 t1, .int .i64 p1, .int .i64 n1, .int .i64 r1, .int .i64 o1, .sl false 93 cf1, .sl false 93 ct1, .sl false 93 bf1, .sl false 93 bt1, .bool h1, .sl false 93 ef1, .sl false 93 et1, .sl false 93 g1, .sl false 96 u1, .sl false 103 v1, .bool m1]], [] => (true, ([.one (.bool (shortM cf1 ct1 bf1 bt1 ef1 et1 g1 u1 v1))], []))
  | _, _ => (false, ([], []))

def s7 : Go.Abs.Spec := fun args blk => match args, blk with
  | [], [] => (true, ([.one (.bool true)], []))
  | _, _ => (false, ([], []))

def s3 : Go.Abs.Spec := fun args blk => match args, blk with
  | [.agg [.int .i64 k1, .int .i64 f1, .int .i64 t1, .int .i64 p1, .int .i64 n1, .int .i64 r1, .int .i64 o1, .sl false 93 cf1, .sl false 93 ct1, .sl false 93 bf1, .sl false 93 bt1, .bool h1, .sl false 93 ef1, .sl false 93 et1, .sl false 93 g1, .sl false 96 u1, .sl false 103 v1, .bool m1]], [] => ((okArgM cf1 ct1 bf1 bt1 ef1 et1 g1 u1 v1), ([.one (.bool true)], []))
  | _, _ => (false, ([], []))

def s4 : Go.Abs.Spec := fun args blk => match args, blk with
  | [.one (.sl false 5 x)], [] => ((okB x), ([.one (.bool true)], []))
  | _, _ => (false, ([], []))

def L : List (Nat × Go.Abs.Spec) := []

def L138 : List (Nat × Go.Abs.Spec) := (138, s138) :: L

def L139 : List (Nat × Go.Abs.Spec) := (139, s139) :: L138

def L65 : List (Nat × Go.Abs.Spec) := (65, s65) :: L139

def L67 : List (Nat × Go.Abs.Spec) := (67, s67) :: L65

def L145 : List (Nat × Go.Abs.Spec) := (145, s145) :: L67

def L125 : List (Nat × Go.Abs.Spec) := (125, s125) :: L145

def L133 : List (Nat × Go.Abs.Spec) := (133, s133) :: L125

def L107 : List (Nat × Go.Abs.Spec) := (107, s107) :: L133

def L112 : List (Nat × Go.Abs.Spec) := (112, s112) :: L107

def L140 : List (Nat × Go.Abs.Spec) := (140, s140) :: L112

def L127 : List (Nat × Go.Abs.Spec) := (127, s127) :: L140

def L126 : List (Nat × Go.Abs.Spec) := (126, s126) :: L127

def L108 : List (Nat × Go.Abs.Spec) := (108, s108) :: L126

def L113 : List (Nat × Go.Abs.Spec) := (113, s113) :: L108

def L91 : List (Nat × Go.Abs.Spec) := (91, s91) :: L113

def L76 : List (Nat × Go.Abs.Spec) := (76, s76) :: L91

def L85 : List (Nat × Go.Abs.Spec) := (85, s85) :: L76

def L134 : List (Nat × Go.Abs.Spec) := (134, s134) :: L85

def L116 : List (Nat × Go.Abs.Spec) := (116, s116) :: L134

def L33 : List (Nat × Go.Abs.Spec) := (33, s33) :: L116

def L34 : List (Nat × Go.Abs.Spec) := (34, s34) :: L33

def L119 : List (Nat × Go.Abs.Spec) := (119, s119) :: L34

def L61 : List (Nat × Go.Abs.Spec) := (61, s61) :: L119

def L70 : List (Nat × Go.Abs.Spec) := (70, s70) :: L61

def L38 : List (Nat × Go.Abs.Spec) := (38, s38) :: L70

def L78 : List (Nat × Go.Abs.Spec) := (78, s78) :: L38

def L86 : List (Nat × Go.Abs.Spec) := (86, s86) :: L78

def L40 : List (Nat × Go.Abs.Spec) := (40, s40) :: L86

def L27 : List (Nat × Go.Abs.Spec) := (27, s27) :: L40

def L144 : List (Nat × Go.Abs.Spec) := (144, s144) :: L27

def L132 : List (Nat × Go.Abs.Spec) := (132, s132) :: L144

def L131 : List (Nat × Go.Abs.Spec) := (131, s131) :: L132

def L143 : List (Nat × Go.Abs.Spec) := (143, s143) :: L131

def L130 : List (Nat × Go.Abs.Spec) := (130, s130) :: L143

def L111 : List (Nat × Go.Abs.Spec) := (111, s111) :: L130

def L72 : List (Nat × Go.Abs.Spec) := (72, s72) :: L111

def L63 : List (Nat × Go.Abs.Spec) := (63, s63) :: L72

def L26 : List (Nat × Go.Abs.Spec) := (26, s26) :: L63

def L37 : List (Nat × Go.Abs.Spec) := (37, s37) :: L26

def L81 : List (Nat × Go.Abs.Spec) := (81, s81) :: L37

def L89 : List (Nat × Go.Abs.Spec) := (89, s89) :: L81

def L66 : List (Nat × Go.Abs.Spec) := (66, s66) :: L89

def L151 : List (Nat × Go.Abs.Spec) := (151, s151) :: L66

def L141 : List (Nat × Go.Abs.Spec) := (141, s141) :: L151

def L114 : List (Nat × Go.Abs.Spec) := (114, s114) :: L141

def L153 : List (Nat × Go.Abs.Spec) := (153, s153) :: L114

def L156 : List (Nat × Go.Abs.Spec) := (156, s156) :: L153

def L152 : List (Nat × Go.Abs.Spec) := (152, s152) :: L156

def L142 : List (Nat × Go.Abs.Spec) := (142, s142) :: L152

def L115 : List (Nat × Go.Abs.Spec) := (115, s115) :: L142

def L128 : List (Nat × Go.Abs.Spec) := (128, s128) :: L115

def L73 : List (Nat × Go.Abs.Spec) := (73, s73) :: L128

def L129 : List (Nat × Go.Abs.Spec) := (129, s129) :: L73

def L74 : List (Nat × Go.Abs.Spec) := (74, s74) :: L129

def L92 : List (Nat × Go.Abs.Spec) := (92, s92) :: L74

def L155 : List (Nat × Go.Abs.Spec) := (155, s155) :: L92

def L150 : List (Nat × Go.Abs.Spec) := (150, s150) :: L155

def L154 : List (Nat × Go.Abs.Spec) := (154, s154) :: L150

def L149 : List (Nat × Go.Abs.Spec) := (149, s149) :: L154

def L146 : List (Nat × Go.Abs.Spec) := (146, s146) :: L149

def L135 : List (Nat × Go.Abs.Spec) := (135, s135) :: L146

def L147 : List (Nat × Go.Abs.Spec) := (147, s147) :: L135

def L148 : List (Nat × Go.Abs.Spec) := (148, s148) :: L147

def L136 : List (Nat × Go.Abs.Spec) := (136, s136) :: L148

def L118 : List (Nat × Go.Abs.Spec) := (118, s118) :: L136

def L137 : List (Nat × Go.Abs.Spec) := (137, s137) :: L118

def L120 : List (Nat × Go.Abs.Spec) := (120, s120) :: L137

def L110 : List (Nat × Go.Abs.Spec) := (110, s110) :: L120

def L71 : List (Nat × Go.Abs.Spec) := (71, s71) :: L110

def L39 : List (Nat × Go.Abs.Spec) := (39, s39) :: L71

def L87 : List (Nat × Go.Abs.Spec) := (87, s87) :: L39

def L18 : List (Nat × Go.Abs.Spec) := (18, s18) :: L87

def L58 : List (Nat × Go.Abs.Spec) := (58, s58) :: L18

def L19 : List (Nat × Go.Abs.Spec) := (19, s19) :: L58

def L23 : List (Nat × Go.Abs.Spec) := (23, s23) :: L19

def L60 : List (Nat × Go.Abs.Spec) := (60, s60) :: L23

def L69 : List (Nat × Go.Abs.Spec) := (69, s69) :: L60

def L59 : List (Nat × Go.Abs.Spec) := (59, s59) :: L69

def L20 : List (Nat × Go.Abs.Spec) := (20, s20) :: L59

def L21 : List (Nat × Go.Abs.Spec) := (21, s21) :: L20

def L109 : List (Nat × Go.Abs.Spec) := (109, s109) :: L21

def L28 : List (Nat × Go.Abs.Spec) := (28, s28) :: L109

def L62 : List (Nat × Go.Abs.Spec) := (62, s62) :: L28

def L64 : List (Nat × Go.Abs.Spec) := (64, s64) :: L62

def L22 : List (Nat × Go.Abs.Spec) := (22, s22) :: L64

def L8 : List (Nat × Go.Abs.Spec) := (8, s8) :: L22

def L68 : List (Nat × Go.Abs.Spec) := (68, s68) :: L8

def L24 : List (Nat × Go.Abs.Spec) := (24, s24) :: L68

def L29 : List (Nat × Go.Abs.Spec) := (29, s29) :: L24

def L25 : List (Nat × Go.Abs.Spec) := (25, s25) :: L29

def L9 : List (Nat × Go.Abs.Spec) := (9, s9) :: L25

def L84 : List (Nat × Go.Abs.Spec) := (84, s84) :: L9

def L90 : List (Nat × Go.Abs.Spec) := (90, s90) :: L84

def L75 : List (Nat × Go.Abs.Spec) := (75, s75) :: L90

def L31 : List (Nat × Go.Abs.Spec) := (31, s31) :: L75

def L30 : List (Nat × Go.Abs.Spec) := (30, s30) :: L31

def L77 : List (Nat × Go.Abs.Spec) := (77, s77) :: L30

def L80 : List (Nat × Go.Abs.Spec) := (80, s80) :: L77

def L117 : List (Nat × Go.Abs.Spec) := (117, s117) :: L80

def L83 : List (Nat × Go.Abs.Spec) := (83, s83) :: L117

def L79 : List (Nat × Go.Abs.Spec) := (79, s79) :: L83

def L82 : List (Nat × Go.Abs.Spec) := (82, s82) :: L79

def L32 : List (Nat × Go.Abs.Spec) := (32, s32) :: L82

def L10 : List (Nat × Go.Abs.Spec) := (10, s10) :: L32

def L88 : List (Nat × Go.Abs.Spec) := (88, s88) :: L10

def L35 : List (Nat × Go.Abs.Spec) := (35, s35) :: L88

def L36 : List (Nat × Go.Abs.Spec) := (36, s36) :: L35

def L11 : List (Nat × Go.Abs.Spec) := (11, s11) :: L36

def L12 : List (Nat × Go.Abs.Spec) := (12, s12) :: L11

def L6 : List (Nat × Go.Abs.Spec) := (6, s6) :: L12

def L7 : List (Nat × Go.Abs.Spec) := (7, s7) :: L6

def L3 : List (Nat × Go.Abs.Spec) := (3, s3) :: L7

def L4 : List (Nat × Go.Abs.Spec) := (4, s4) :: L3

theorem tabs : tabB Tryz.prog E tyTab = true := by kernel_rfl

theorem good : Go.Abs.Good Tryz.prog E := good_of (l := tyTab) rfl tabs

end Go.Proofs.YtejimgikldiajaaGreat

namespace Go.Proofs.YtejimgikldiajaaGreat

open Go.Abs

set_option maxRecDepth 20000

theorem e138 (m : Nat) (n lo hi : Int) (u : Bool) : runF E (callOf L) (m + 1) 138 [.one (.int .i64 n), .one (.int .i64 lo), .one (.int .i64 hi), .one (.bool u)] [] =
  (cond (!u)
  (some ([.one (.bool (n == 0))], []))
  (cond (decide (n ≥ lo))
  (some ([.one (.bool (decide (n ≤ hi)))], []))
  (some ([.one (.bool false)], [])))) := by kernel_rfl

theorem e139 (m : Nat) (k c f : Int) : runF E (callOf L138) (m + 1) 139 [.agg [.int .i64 k, .int .i64 c, .int .i64 f]] [] =
  (cond (k == 1)
  (cond (k == 1)
  (cond (!(c == 0))
  (some ([.one (.int .i64 9)], []))
  (cond (!(f == 0))
  (some ([.one (.int .i64 9)], []))
  (some ([.one (.int .i64 0)], []))))
  (cond (k == 3)
  (cond (decide (c ≥ 1))
  (cond (!(decide (c ≤ 12)))
  (some ([.one (.int .i64 9)], []))
  (cond (!(f == 0))
  (some ([.one (.int .i64 9)], []))
  (some ([.one (.int .i64 0)], []))))
  (some ([.one (.int .i64 9)], [])))
  (cond (k == 4)
  (cond (decide (f ≥ 0))
  (cond (!(c == 0))
  (some ([.one (.int .i64 9)], []))
  (cond (!(decide (f ≤ 12)))
  (some ([.one (.int .i64 9)], []))
  (some ([.one (.int .i64 0)], []))))
  (cond (!(c == 0))
  (some ([.one (.int .i64 9)], []))
  (some ([.one (.int .i64 9)], []))))
  (some ([.one (.int .i64 10)], [])))))
  (cond (k == 2)
  (cond (!(c == 0))
  (some ([.one (.int .i64 9)], []))
  (cond (!(f == 0))
  (some ([.one (.int .i64 9)], []))
  (some ([.one (.int .i64 0)], []))))
  (cond (k == 3)
  (cond (decide (c ≥ 1))
  (cond (!(decide (c ≤ 12)))
  (some ([.one (.int .i64 9)], []))
  (cond (!(f == 0))
  (some ([.one (.int .i64 9)], []))
  (some ([.one (.int .i64 0)], []))))
  (some ([.one (.int .i64 9)], [])))
  (cond (k == 4)
  (cond (decide (f ≥ 0))
  (cond (!(c == 0))
  (some ([.one (.int .i64 9)], []))
  (cond (!(decide (f ≤ 12)))
  (some ([.one (.int .i64 9)], []))
  (some ([.one (.int .i64 0)], []))))
  (cond (!(c == 0))
  (some ([.one (.int .i64 9)], []))
  (some ([.one (.int .i64 9)], []))))
  (some ([.one (.int .i64 10)], [])))))) := by kernel_rfl

theorem e65 (m : Nat) (n : Int) : runF E (callOf L139) (m + 1) 65 [.one (.int .i64 n)] [] =
  (cond (decide (n ≥ 1))
  (some ([.one (.bool (decide (n ≤ 12)))], []))
  (some ([.one (.bool false)], []))) := by kernel_rfl

theorem e67 (m : Nat) (n : Int) : runF E (callOf L65) (m + 1) 67 [.one (.int .i64 n)] [] =
  (cond (decide (n ≥ 201))
  (some ([.one (.bool (decide (n < 204)))], []))
  (some ([.one (.bool false)], []))) := by kernel_rfl

theorem e145 (m : Nat) (k c f : Int) : runF E (callOf L67) (m + 1) 145 [.agg [.int .i64 k, .int .i64 c, .int .i64 f]] [] =
  (cond (decide (k < 1))
  (some ([.one (.int .i64 10)], []))
  (cond (decide (k > 4))
  (some ([.one (.int .i64 10)], []))
  (cond (k == 3)
  (cond (!(isServer c))
  (some ([.one (.int .i64 9)], []))
  (cond (k != 3)
  (cond (c != 0)
  (some ([.one (.int .i64 9)], []))
  (cond (k == 4)
  (cond (decide (f < 0))
  (some ([.one (.int .i64 9)], []))
  (cond (decide (f > 12))
  (some ([.one (.int .i64 9)], []))
  (cond (k != 4)
  (cond (f != 0)
  (some ([.one (.int .i64 9)], []))
  (some ([.one (.int .i64 0)], [])))
  (some ([.one (.int .i64 0)], [])))))
  (cond (k != 4)
  (cond (f != 0)
  (some ([.one (.int .i64 9)], []))
  (some ([.one (.int .i64 0)], [])))
  (some ([.one (.int .i64 0)], [])))))
  (cond (k == 4)
  (cond (decide (f < 0))
  (some ([.one (.int .i64 9)], []))
  (cond (decide (f > 12))
  (some ([.one (.int .i64 9)], []))
  (cond (k != 4)
  (cond (f != 0)
  (some ([.one (.int .i64 9)], []))
  (some ([.one (.int .i64 0)], [])))
  (some ([.one (.int .i64 0)], [])))))
  (cond (k != 4)
  (cond (f != 0)
  (some ([.one (.int .i64 9)], []))
  (some ([.one (.int .i64 0)], [])))
  (some ([.one (.int .i64 0)], []))))))
  (cond (k != 3)
  (cond (c != 0)
  (some ([.one (.int .i64 9)], []))
  (cond (k == 4)
  (cond (decide (f < 0))
  (some ([.one (.int .i64 9)], []))
  (cond (decide (f > 12))
  (some ([.one (.int .i64 9)], []))
  (cond (k != 4)
  (cond (f != 0)
  (some ([.one (.int .i64 9)], []))
  (some ([.one (.int .i64 0)], [])))
  (some ([.one (.int .i64 0)], [])))))
  (cond (k != 4)
  (cond (f != 0)
  (some ([.one (.int .i64 9)], []))
  (some ([.one (.int .i64 0)], [])))
  (some ([.one (.int .i64 0)], [])))))
  (cond (k == 4)
  (cond (decide (f < 0))
  (some ([.one (.int .i64 9)], []))
  (cond (decide (f > 12))
  (some ([.one (.int .i64 9)], []))
  (cond (k != 4)
  (cond (f != 0)
  (some ([.one (.int .i64 9)], []))
  (some ([.one (.int .i64 0)], [])))
  (some ([.one (.int .i64 0)], [])))))
  (cond (k != 4)
  (cond (f != 0)
  (some ([.one (.int .i64 9)], []))
  (some ([.one (.int .i64 0)], [])))
  (some ([.one (.int .i64 0)], [])))))))) := by kernel_rfl

theorem e125 (m : Nat) (k s w v rk rc rf : Int) : runF E (callOf L145) (m + 1) 125 [.agg [.int .i64 k, .int .i64 s, .int .i64 w, .int .i64 v, .int .i64 rk, .int .i64 rc, .int .i64 rf]] [] =
  (cond (decide (k < 1))
  (some ([.one (.int .i64 10)], []))
  (cond (decide (k > 4))
  (some ([.one (.int .i64 10)], []))
  (cond (k == 1)
  (cond (k == 3)
  (cond (!(within s 1 12 (!(k == 4))))
  (some ([.one (.int .i64 9)], []))
  (cond (!(within w 1 9 true))
  (some ([.one (.int .i64 9)], []))
  (cond (!(within v 1 1000 true))
  (some ([.one (.int .i64 9)], []))
  (cond (k == 4)
  (some ([.one (.int .i64 (vRule rk rc rf))], []))
  (cond (!((rk == 0) && ((rc == 0) && ((rf == 0) && true))))
  (some ([.one (.int .i64 2)], []))
  (some ([.one (.int .i64 0)], [])))))))
  (cond (!(within s 1 12 (!(k == 4))))
  (some ([.one (.int .i64 9)], []))
  (cond (!(within w 1 9 true))
  (some ([.one (.int .i64 9)], []))
  (cond (!(within v 1 1000 (k == 4)))
  (some ([.one (.int .i64 9)], []))
  (cond (k == 4)
  (some ([.one (.int .i64 (vRule rk rc rf))], []))
  (cond (!((rk == 0) && ((rc == 0) && ((rf == 0) && true))))
  (some ([.one (.int .i64 2)], []))
  (some ([.one (.int .i64 0)], []))))))))
  (cond (k == 3)
  (cond (!(within s 1 12 (!(k == 4))))
  (some ([.one (.int .i64 9)], []))
  (cond (!(within w 1 9 (k == 3)))
  (some ([.one (.int .i64 9)], []))
  (cond (!(within v 1 1000 true))
  (some ([.one (.int .i64 9)], []))
  (cond (k == 4)
  (some ([.one (.int .i64 (vRule rk rc rf))], []))
  (cond (!((rk == 0) && ((rc == 0) && ((rf == 0) && true))))
  (some ([.one (.int .i64 2)], []))
  (some ([.one (.int .i64 0)], [])))))))
  (cond (!(within s 1 12 (!(k == 4))))
  (some ([.one (.int .i64 9)], []))
  (cond (!(within w 1 9 (k == 3)))
  (some ([.one (.int .i64 9)], []))
  (cond (!(within v 1 1000 (k == 4)))
  (some ([.one (.int .i64 9)], []))
  (cond (k == 4)
  (some ([.one (.int .i64 (vRule rk rc rf))], []))
  (cond (!((rk == 0) && ((rc == 0) && ((rf == 0) && true))))
  (some ([.one (.int .i64 2)], []))
  (some ([.one (.int .i64 0)], []))))))))))) := by kernel_rfl

noncomputable def P133_0 : List AItem := F133.at [.snd, .snd, .fst, .sub, .snd]

def M133_0 (t3 : Bool) (t4 : Bool) (t5 : Bool) (t6 : Bool) (t19 : Bool) (b0 : Int) (b0_1 : Int) (b0_2 : Int) (b0_3 : Int) (b0_4 : Int) (b0_5 : Int) (b0_6 : Int) : St := ⟨[(1, .one (.ptr 0 0)), (3, .one (.bool t3)), (4, .one (.bool t4)), (5, .one (.bool t5)), (6, .one (.bool t6)), (19, .one (.bool t19))], [.var [.int .i64 b0, .int .i64 b0_1, .int .i64 b0_2, .int .i64 b0_3, .int .i64 b0_4, .int .i64 b0_5, .int .i64 b0_6]]⟩

noncomputable def P133_1 : List AItem := F133.at [.snd, .snd, .fst, .sub, .snd, .snd, .snd]

def M133_1 (t3 : Bool) (t4 : Bool) (t5 : Bool) (t6 : Bool) (t34 : Bool) (b0 : Int) (b0_1 : Int) (b0_2 : Int) (b0_3 : Int) (b0_4 : Int) (b0_5 : Int) (b0_6 : Int) : St := ⟨[(1, .one (.ptr 0 0)), (3, .one (.bool t3)), (4, .one (.bool t4)), (5, .one (.bool t5)), (6, .one (.bool t6)), (34, .one (.bool t34))], [.var [.int .i64 b0, .int .i64 b0_1, .int .i64 b0_2, .int .i64 b0_3, .int .i64 b0_4, .int .i64 b0_5, .int .i64 b0_6]]⟩

noncomputable def P133_2 : List AItem := F133.at [.snd, .snd, .fst, .sub, .snd, .snd, .snd, .snd, .snd]

def M133_2 (t3 : Bool) (t4 : Bool) (t5 : Bool) (t6 : Bool) (t51 : Bool) (b0 : Int) (b0_1 : Int) (b0_2 : Int) (b0_3 : Int) (b0_4 : Int) (b0_5 : Int) (b0_6 : Int) : St := ⟨[(1, .one (.ptr 0 0)), (3, .one (.bool t3)), (4, .one (.bool t4)), (5, .one (.bool t5)), (6, .one (.bool t6)), (51, .one (.bool t51))], [.var [.int .i64 b0, .int .i64 b0_1, .int .i64 b0_2, .int .i64 b0_3, .int .i64 b0_4, .int .i64 b0_5, .int .i64 b0_6]]⟩

noncomputable def P133_3 : List AItem := F133.at [.snd, .snd, .fst, .sub, .snd, .snd, .snd, .snd, .snd, .snd, .snd]

def M133_3 (t6 : Bool) (t77 : Bool) (b0 : Int) (b0_1 : Int) (b0_2 : Int) (b0_3 : Int) (b0_4 : Int) (b0_5 : Int) (b0_6 : Int) : St := ⟨[(1, .one (.ptr 0 0)), (6, .one (.bool t6)), (77, .one (.bool t77))], [.var [.int .i64 b0, .int .i64 b0_1, .int .i64 b0_2, .int .i64 b0_3, .int .i64 b0_4, .int .i64 b0_5, .int .i64 b0_6]]⟩

noncomputable def P133_4 : List AItem := F133.at [.snd, .snd, .snd]

def M133_4  : St := ⟨[], []⟩

theorem e133 (m : Nat) (k s w v rk rc rf : Int) : runF E (callOf L125) (m + 1) 133 [.agg [.int .i64 k, .int .i64 s, .int .i64 w, .int .i64 v, .int .i64 rk, .int .i64 rc, .int .i64 rf]] [] =
  (cond (!(k == 1))
  (cond (!(k == 2))
  (cond (!(k == 3))
  (goF E (callOf L125) F133 0 m P133_0 (M133_0 (k == 1) (k == 2) (k == 3) (k == 4) (!(k == 4)) k s w v rk rc rf))
  (goF E (callOf L125) F133 0 m P133_0 (M133_0 (k == 1) (k == 2) (k == 3) (k == 4) false k s w v rk rc rf)))
  (goF E (callOf L125) F133 0 m P133_0 (M133_0 (k == 1) (k == 2) (k == 3) (k == 4) false k s w v rk rc rf)))
  (goF E (callOf L125) F133 0 m P133_0 (M133_0 (k == 1) (k == 2) (k == 3) (k == 4) false k s w v rk rc rf))) := by kernel_rfl

theorem e133_0 (m : Nat) (t3 t4 t5 t6 t19 : Bool) (b0 b0_1 b0_2 b0_3 b0_4 b0_5 b0_6 : Int) : goF E (callOf L125) F133 0 (m + 1) P133_0 (M133_0 t3 t4 t5 t6 t19 b0 b0_1 b0_2 b0_3 b0_4 b0_5 b0_6) =
  (cond t19
  (some ([.one (.int .i64 10)], []))
  (cond (!t6)
  (cond (!(isServer b0_1))
  (goF E (callOf L125) F133 0 m P133_1 (M133_1 t3 t4 t5 t6 true b0 b0_1 b0_2 b0_3 b0_4 b0_5 b0_6))
  (cond t6
  (goF E (callOf L125) F133 0 m P133_1 (M133_1 t3 t4 t5 t6 (b0_1 != 0) b0 b0_1 b0_2 b0_3 b0_4 b0_5 b0_6))
  (goF E (callOf L125) F133 0 m P133_1 (M133_1 t3 t4 t5 t6 false b0 b0_1 b0_2 b0_3 b0_4 b0_5 b0_6))))
  (cond t6
  (goF E (callOf L125) F133 0 m P133_1 (M133_1 t3 t4 t5 t6 (b0_1 != 0) b0 b0_1 b0_2 b0_3 b0_4 b0_5 b0_6))
  (goF E (callOf L125) F133 0 m P133_1 (M133_1 t3 t4 t5 t6 false b0 b0_1 b0_2 b0_3 b0_4 b0_5 b0_6))))) := by kernel_rfl

theorem e133_1 (m : Nat) (t3 t4 t5 t6 t34 : Bool) (b0 b0_1 b0_2 b0_3 b0_4 b0_5 b0_6 : Int) : goF E (callOf L125) F133 0 (m + 1) P133_1 (M133_1 t3 t4 t5 t6 t34 b0 b0_1 b0_2 b0_3 b0_4 b0_5 b0_6) =
  (cond t34
  (some ([.one (.int .i64 9)], []))
  (cond t3
  (cond (decide (b0_2 < 1))
  (goF E (callOf L125) F133 0 m P133_2 (M133_2 t3 t4 t5 t6 true b0 b0_1 b0_2 b0_3 b0_4 b0_5 b0_6))
  (cond (decide (b0_2 > 9))
  (goF E (callOf L125) F133 0 m P133_2 (M133_2 t3 t4 t5 t6 true b0 b0_1 b0_2 b0_3 b0_4 b0_5 b0_6))
  (cond t4
  (goF E (callOf L125) F133 0 m P133_2 (M133_2 t3 t4 t5 t6 (b0_2 != 0) b0 b0_1 b0_2 b0_3 b0_4 b0_5 b0_6))
  (cond t6
  (goF E (callOf L125) F133 0 m P133_2 (M133_2 t3 t4 t5 t6 (b0_2 != 0) b0 b0_1 b0_2 b0_3 b0_4 b0_5 b0_6))
  (goF E (callOf L125) F133 0 m P133_2 (M133_2 t3 t4 t5 t6 false b0 b0_1 b0_2 b0_3 b0_4 b0_5 b0_6))))))
  (cond t5
  (cond (decide (b0_2 < 1))
  (goF E (callOf L125) F133 0 m P133_2 (M133_2 t3 t4 t5 t6 true b0 b0_1 b0_2 b0_3 b0_4 b0_5 b0_6))
  (cond (decide (b0_2 > 9))
  (goF E (callOf L125) F133 0 m P133_2 (M133_2 t3 t4 t5 t6 true b0 b0_1 b0_2 b0_3 b0_4 b0_5 b0_6))
  (cond t4
  (goF E (callOf L125) F133 0 m P133_2 (M133_2 t3 t4 t5 t6 (b0_2 != 0) b0 b0_1 b0_2 b0_3 b0_4 b0_5 b0_6))
  (cond t6
  (goF E (callOf L125) F133 0 m P133_2 (M133_2 t3 t4 t5 t6 (b0_2 != 0) b0 b0_1 b0_2 b0_3 b0_4 b0_5 b0_6))
  (goF E (callOf L125) F133 0 m P133_2 (M133_2 t3 t4 t5 t6 false b0 b0_1 b0_2 b0_3 b0_4 b0_5 b0_6))))))
  (cond t4
  (goF E (callOf L125) F133 0 m P133_2 (M133_2 t3 t4 t5 t6 (b0_2 != 0) b0 b0_1 b0_2 b0_3 b0_4 b0_5 b0_6))
  (cond t6
  (goF E (callOf L125) F133 0 m P133_2 (M133_2 t3 t4 t5 t6 (b0_2 != 0) b0 b0_1 b0_2 b0_3 b0_4 b0_5 b0_6))
  (goF E (callOf L125) F133 0 m P133_2 (M133_2 t3 t4 t5 t6 false b0 b0_1 b0_2 b0_3 b0_4 b0_5 b0_6))))))) := by kernel_rfl

theorem e133_2 (m : Nat) (t3 t4 t5 t6 t51 : Bool) (b0 b0_1 b0_2 b0_3 b0_4 b0_5 b0_6 : Int) : goF E (callOf L125) F133 0 (m + 1) P133_2 (M133_2 t3 t4 t5 t6 t51 b0 b0_1 b0_2 b0_3 b0_4 b0_5 b0_6) =
  (cond t51
  (some ([.one (.int .i64 9)], []))
  (cond t5
  (cond (decide (b0_3 < 1))
  (goF E (callOf L125) F133 0 m P133_3 (M133_3 t6 true b0 b0_1 b0_2 b0_3 b0_4 b0_5 b0_6))
  (cond (decide (b0_3 > 1000))
  (goF E (callOf L125) F133 0 m P133_3 (M133_3 t6 true b0 b0_1 b0_2 b0_3 b0_4 b0_5 b0_6))
  (cond t3
  (goF E (callOf L125) F133 0 m P133_3 (M133_3 t6 (b0_3 != 0) b0 b0_1 b0_2 b0_3 b0_4 b0_5 b0_6))
  (cond t4
  (goF E (callOf L125) F133 0 m P133_3 (M133_3 t6 (b0_3 != 0) b0 b0_1 b0_2 b0_3 b0_4 b0_5 b0_6))
  (goF E (callOf L125) F133 0 m P133_3 (M133_3 t6 false b0 b0_1 b0_2 b0_3 b0_4 b0_5 b0_6))))))
  (cond t6
  (cond (decide (b0_3 < 1))
  (goF E (callOf L125) F133 0 m P133_3 (M133_3 t6 true b0 b0_1 b0_2 b0_3 b0_4 b0_5 b0_6))
  (cond (decide (b0_3 > 1000))
  (goF E (callOf L125) F133 0 m P133_3 (M133_3 t6 true b0 b0_1 b0_2 b0_3 b0_4 b0_5 b0_6))
  (cond t3
  (goF E (callOf L125) F133 0 m P133_3 (M133_3 t6 (b0_3 != 0) b0 b0_1 b0_2 b0_3 b0_4 b0_5 b0_6))
  (cond t4
  (goF E (callOf L125) F133 0 m P133_3 (M133_3 t6 (b0_3 != 0) b0 b0_1 b0_2 b0_3 b0_4 b0_5 b0_6))
  (goF E (callOf L125) F133 0 m P133_3 (M133_3 t6 false b0 b0_1 b0_2 b0_3 b0_4 b0_5 b0_6))))))
  (cond t3
  (goF E (callOf L125) F133 0 m P133_3 (M133_3 t6 (b0_3 != 0) b0 b0_1 b0_2 b0_3 b0_4 b0_5 b0_6))
  (cond t4
  (goF E (callOf L125) F133 0 m P133_3 (M133_3 t6 (b0_3 != 0) b0 b0_1 b0_2 b0_3 b0_4 b0_5 b0_6))
  (goF E (callOf L125) F133 0 m P133_3 (M133_3 t6 false b0 b0_1 b0_2 b0_3 b0_4 b0_5 b0_6))))))) := by kernel_rfl

theorem e133_3 (m : Nat) (t6 t77 : Bool) (b0 b0_1 b0_2 b0_3 b0_4 b0_5 b0_6 : Int) : goF E (callOf L125) F133 0 (m + 1) P133_3 (M133_3 t6 t77 b0 b0_1 b0_2 b0_3 b0_4 b0_5 b0_6) =
  (cond t77
  (some ([.one (.int .i64 9)], []))
  (cond t6
  (some ([.one (.int .i64 (vRule b0_4 b0_5 b0_6))], []))
  (cond (!((b0_4 == 0) && ((b0_5 == 0) && ((b0_6 == 0) && true))))
  (some ([.one (.int .i64 2)], []))
  (goF E (callOf L125) F133 0 m P133_4 (M133_4 ))))) := by kernel_rfl

theorem e133_4 (m : Nat)  : goF E (callOf L125) F133 0 (m + 1) P133_4 (M133_4 ) =
  (some ([.one (.int .i64 0)], [])) := by kernel_rfl

noncomputable def P107_0 : List AItem := F107.at [.snd, .snd, .fst, .snd, .sub, .head]

def M107_0 (t38 : List (List Cell)) (t39 : Int) (t40 : Int) (b0 : Int) (b0_1 : Int) (b0_2 : List (List Cell)) : St := ⟨[(1, .one (.ptr 0 0)), (38, .one (.sl false 89 t38)), (39, .one (.int .i64 t39)), (40, .one (.int .i64 t40))], [.var [.int .i64 b0, .int .i64 b0_1, .sl false 89 b0_2]]⟩

noncomputable def P107_1 : List AItem := F107.at [.snd, .snd, .fst, .snd, .sub, .body, .snd, .snd, .fst, .sub, .snd, .snd, .snd, .sub, .head]

def M107_1 (t38 : List (List Cell)) (t39 : Int) (t40 : Int) (t53 : List (List Cell)) (t54 : Int) (t55 : Int) (b0 : Int) (b0_1 : Int) (b0_2 : List (List Cell)) (b1 : Int) (b1_1 : Int) (b1_2 : Int) (b1_3 : Int) (b1_4 : Int) (b1_5 : Int) (b1_6 : Int) : St := ⟨[(1, .one (.ptr 0 0)), (4, .one (.ptr 1 0)), (38, .one (.sl false 89 t38)), (39, .one (.int .i64 t39)), (40, .one (.int .i64 t40)), (53, .one (.sl false 89 t53)), (54, .one (.int .i64 t54)), (55, .one (.int .i64 t55))], [.var [.int .i64 b0, .int .i64 b0_1, .sl false 89 b0_2], .var [.int .i64 b1, .int .i64 b1_1, .int .i64 b1_2, .int .i64 b1_3, .int .i64 b1_4, .int .i64 b1_5, .int .i64 b1_6]]⟩

theorem e107 (m : Nat) (ap np : Int) (cp : List (List Cell)) : runF E (callOf L133) (m + 1) 107 [.agg [.int .i64 ap, .int .i64 np, .sl false 89 cp]] [] =
  (cond (decide (ap < 201))
  (some ([.one (.int .i64 9)], []))
  (cond (decide (ap ≥ 204))
  (some ([.one (.int .i64 9)], []))
  (cond (decide (np < 1))
  (some ([.one (.int .i64 9)], []))
  (cond (decide (np > 3))
  (some ([.one (.int .i64 9)], []))
  (cond ((cp.length : Int) == 0)
  (some ([.one (.int .i64 2)], []))
  (cond (decide ((cp.length : Int) > 6))
  (some ([.one (.int .i64 3)], []))
  (goF E (callOf L133) F107 0 m P107_0 (M107_0 cp (cp.length : Int) 0 ap np cp)))))))) := by kernel_rfl

theorem e107_0 (m : Nat) (t38 : List (List Cell)) (t39 t40 b0 b0_1 : Int) (b0_2 : List (List Cell)) : goF E (callOf L133) F107 0 (m + 1) P107_0 (M107_0 t38 t39 t40 b0 b0_1 b0_2) =
  (cond (decide (t40 < t39))
  (cond (inB t40 t38.length)
  (cond ((vChange (nr (Abs.rowAt t38 (Int.toNat t40)) 0) (nr (Abs.rowAt t38 (Int.toNat t40)) 1) (nr (Abs.rowAt t38 (Int.toNat t40)) 2) (nr (Abs.rowAt t38 (Int.toNat t40)) 3) (nr (Abs.rowAt t38 (Int.toNat t40)) 4) (nr (Abs.rowAt t38 (Int.toNat t40)) 5) (nr (Abs.rowAt t38 (Int.toNat t40)) 6)) != 0)
  (some ([.one (.int .i64 (vChange (nr (Abs.rowAt t38 (Int.toNat t40)) 0) (nr (Abs.rowAt t38 (Int.toNat t40)) 1) (nr (Abs.rowAt t38 (Int.toNat t40)) 2) (nr (Abs.rowAt t38 (Int.toNat t40)) 3) (nr (Abs.rowAt t38 (Int.toNat t40)) 4) (nr (Abs.rowAt t38 (Int.toNat t40)) 5) (nr (Abs.rowAt t38 (Int.toNat t40)) 6)))], []))
  (cond (inB t40 (b0_2.length + 1))
  (goF E (callOf L133) F107 0 m P107_1 (M107_1 t38 t39 t40 (takeN b0_2 (Int.toNat t40)) ((takeN b0_2 (Int.toNat t40)).length : Int) 0 b0 b0_1 b0_2 (nr (Abs.rowAt t38 (Int.toNat t40)) 0) (nr (Abs.rowAt t38 (Int.toNat t40)) 1) (nr (Abs.rowAt t38 (Int.toNat t40)) 2) (nr (Abs.rowAt t38 (Int.toNat t40)) 3) (nr (Abs.rowAt t38 (Int.toNat t40)) 4) (nr (Abs.rowAt t38 (Int.toNat t40)) 5) (nr (Abs.rowAt t38 (Int.toNat t40)) 6)))
  none))
  none)
  (some ([.one (.int .i64 0)], []))) := by kernel_rfl

theorem e107_1 (m : Nat) (t38 : List (List Cell)) (t39 t40 : Int) (t53 : List (List Cell)) (t54 t55 b0 b0_1 : Int) (b0_2 : List (List Cell)) (b1 b1_1 b1_2 b1_3 b1_4 b1_5 b1_6 : Int) : goF E (callOf L133) F107 0 (m + 1) P107_1 (M107_1 t38 t39 t40 t53 t54 t55 b0 b0_1 b0_2 b1 b1_1 b1_2 b1_3 b1_4 b1_5 b1_6) =
  (cond (decide (t55 < t54))
  (cond (inB t55 t53.length)
  (cond ((nr (Abs.rowAt t53 (Int.toNat t55)) 0) == b1)
  (cond ((nr (Abs.rowAt t53 (Int.toNat t55)) 1) == b1_1)
  (some ([.one (.int .i64 5)], []))
  (goF E (callOf L133) F107 0 m P107_1 (M107_1 t38 t39 t40 t53 t54 (IntKind.wrap .i64 (t55 + 1)) b0 b0_1 b0_2 b1 b1_1 b1_2 b1_3 b1_4 b1_5 b1_6)))
  (goF E (callOf L133) F107 0 m P107_1 (M107_1 t38 t39 t40 t53 t54 (IntKind.wrap .i64 (t55 + 1)) b0 b0_1 b0_2 b1 b1_1 b1_2 b1_3 b1_4 b1_5 b1_6)))
  none)
  (goF E (callOf L133) F107 0 m P107_0 (M107_0 t38 t39 (IntKind.wrap .i64 (t40 + 1)) b0 b0_1 b0_2))) := by kernel_rfl

noncomputable def P112_0 : List AItem := F112.at [.snd, .fst, .sub, .snd]

def M112_0 (t6 : Bool) (b0 : Int) (b0_1 : Int) (b0_2 : List (List Cell)) : St := ⟨[(1, .one (.ptr 0 0)), (6, .one (.bool t6))], [.var [.int .i64 b0, .int .i64 b0_1, .sl false 89 b0_2]]⟩

noncomputable def P112_1 : List AItem := F112.at [.snd, .snd]

def M112_1 (b0 : Int) (b0_1 : Int) (b0_2 : List (List Cell)) : St := ⟨[(1, .one (.ptr 0 0))], [.var [.int .i64 b0, .int .i64 b0_1, .sl false 89 b0_2]]⟩

noncomputable def P112_2 : List AItem := F112.at [.snd, .snd, .fst, .snd, .sub, .head]

def M112_2 (t3 : Int) (b0 : Int) (b0_1 : Int) (b0_2 : List (List Cell)) : St := ⟨[(1, .one (.ptr 0 0)), (3, .one (.int .i64 t3))], [.var [.int .i64 b0, .int .i64 b0_1, .sl false 89 b0_2]]⟩

noncomputable def P112_3 : List AItem := F112.at [.snd, .snd, .fst, .snd, .sub, .body, .snd]

def M112_3 (t3 : Int) (b0 : Int) (b0_1 : Int) (b0_2 : List (List Cell)) : St := ⟨[(1, .one (.ptr 0 0)), (3, .one (.int .i64 t3))], [.var [.int .i64 b0, .int .i64 b0_1, .sl false 89 b0_2]]⟩

noncomputable def P112_4 : List AItem := F112.at [.snd, .snd, .snd]

def M112_4  : St := ⟨[], []⟩

noncomputable def P112_5 : List AItem := F112.at [.snd, .snd, .fst, .snd, .sub, .body, .snd, .fst, .sub, .snd]

def M112_5 (t3 : Int) (b0 : Int) (b0_1 : Int) (b0_2 : List (List Cell)) : St := ⟨[(1, .one (.ptr 0 0)), (3, .one (.int .i64 t3))], [.var [.int .i64 b0, .int .i64 b0_1, .sl false 89 b0_2]]⟩

noncomputable def P112_6 : List AItem := F112.at [.snd, .snd, .fst, .snd, .sub, .body, .snd, .fst, .sub, .snd, .snd, .sub, .head]

def M112_6 (t3 : Int) (t5 : Int) (b0 : Int) (b0_1 : Int) (b0_2 : List (List Cell)) : St := ⟨[(1, .one (.ptr 0 0)), (3, .one (.int .i64 t3)), (5, .one (.int .i64 t5))], [.var [.int .i64 b0, .int .i64 b0_1, .sl false 89 b0_2]]⟩

noncomputable def P112_7 : List AItem := F112.at [.snd, .snd, .fst, .snd, .sub, .body, .snd, .fst, .sub, .snd, .snd, .sub, .body, .snd]

def M112_7 (t3 : Int) (t5 : Int) (b0 : Int) (b0_1 : Int) (b0_2 : List (List Cell)) : St := ⟨[(1, .one (.ptr 0 0)), (3, .one (.int .i64 t3)), (5, .one (.int .i64 t5))], [.var [.int .i64 b0, .int .i64 b0_1, .sl false 89 b0_2]]⟩

noncomputable def P112_8 : List AItem := F112.at [.snd, .snd, .fst, .snd, .sub, .body, .snd, .snd]

def M112_8 (t3 : Int) (b0 : Int) (b0_1 : Int) (b0_2 : List (List Cell)) : St := ⟨[(1, .one (.ptr 0 0)), (3, .one (.int .i64 t3))], [.var [.int .i64 b0, .int .i64 b0_1, .sl false 89 b0_2]]⟩

noncomputable def P112_9 : List AItem := F112.at [.snd, .snd, .fst, .snd, .sub, .body, .snd, .fst, .sub, .snd, .snd, .sub, .body, .snd, .fst, .sub, .snd]

def M112_9 (t3 : Int) (t5 : Int) (t79 : Bool) (b0 : Int) (b0_1 : Int) (b0_2 : List (List Cell)) : St := ⟨[(1, .one (.ptr 0 0)), (3, .one (.int .i64 t3)), (5, .one (.int .i64 t5)), (79, .one (.bool t79))], [.var [.int .i64 b0, .int .i64 b0_1, .sl false 89 b0_2]]⟩

noncomputable def P112_10 : List AItem := F112.at [.snd, .snd, .fst, .snd, .sub, .body, .snd, .fst, .sub, .snd, .snd, .sub, .body, .snd, .snd]

def M112_10 (t3 : Int) (t5 : Int) (b0 : Int) (b0_1 : Int) (b0_2 : List (List Cell)) : St := ⟨[(1, .one (.ptr 0 0)), (3, .one (.int .i64 t3)), (5, .one (.int .i64 t5))], [.var [.int .i64 b0, .int .i64 b0_1, .sl false 89 b0_2]]⟩

theorem e112 (m : Nat) (ap np : Int) (cp : List (List Cell)) : runF E (callOf L107) (m + 1) 112 [.agg [.int .i64 ap, .int .i64 np, .sl false 89 cp]] [] =
  (cond (!(isAdmin ap))
  (goF E (callOf L107) F112 0 m P112_0 (M112_0 true ap np cp))
  (cond (decide (np < 1))
  (goF E (callOf L107) F112 0 m P112_0 (M112_0 true ap np cp))
  (goF E (callOf L107) F112 0 m P112_0 (M112_0 (decide (np > 3)) ap np cp)))) := by kernel_rfl

theorem e112_0 (m : Nat) (t6 : Bool) (b0 b0_1 : Int) (b0_2 : List (List Cell)) : goF E (callOf L107) F112 0 (m + 1) P112_0 (M112_0 t6 b0 b0_1 b0_2) =
  (cond t6
  (some ([.one (.int .i64 9)], []))
  (cond ((b0_2.length : Int) == 0)
  (some ([.one (.int .i64 2)], []))
  (cond (decide ((b0_2.length : Int) > 6))
  (some ([.one (.int .i64 3)], []))
  (goF E (callOf L107) F112 0 m P112_1 (M112_1 b0 b0_1 b0_2))))) := by kernel_rfl

theorem e112_1 (m : Nat) (b0 b0_1 : Int) (b0_2 : List (List Cell)) : goF E (callOf L107) F112 0 (m + 1) P112_1 (M112_1 b0 b0_1 b0_2) =
  (goF E (callOf L107) F112 0 m P112_2 (M112_2 0 b0 b0_1 b0_2)) := by kernel_rfl

theorem e112_2 (m : Nat) (t3 b0 b0_1 : Int) (b0_2 : List (List Cell)) : goF E (callOf L107) F112 0 (m + 1) P112_2 (M112_2 t3 b0 b0_1 b0_2) =
  (cond (decide (t3 < (b0_2.length : Int)))
  (goF E (callOf L107) F112 0 m P112_3 (M112_3 t3 b0 b0_1 b0_2))
  (goF E (callOf L107) F112 0 m P112_4 (M112_4 ))) := by kernel_rfl

theorem e112_3 (m : Nat) (t3 b0 b0_1 : Int) (b0_2 : List (List Cell)) : goF E (callOf L107) F112 0 (m + 1) P112_3 (M112_3 t3 b0 b0_1 b0_2) =
  (cond (inB t3 b0_2.length)
  (cond ((vChange (nr (Abs.rowAt b0_2 (Int.toNat t3)) 0) (nr (Abs.rowAt b0_2 (Int.toNat t3)) 1) (nr (Abs.rowAt b0_2 (Int.toNat t3)) 2) (nr (Abs.rowAt b0_2 (Int.toNat t3)) 3) (nr (Abs.rowAt b0_2 (Int.toNat t3)) 4) (nr (Abs.rowAt b0_2 (Int.toNat t3)) 5) (nr (Abs.rowAt b0_2 (Int.toNat t3)) 6)) != 0)
  (some ([.one (.int .i64 (vChange (nr (Abs.rowAt b0_2 (Int.toNat t3)) 0) (nr (Abs.rowAt b0_2 (Int.toNat t3)) 1) (nr (Abs.rowAt b0_2 (Int.toNat t3)) 2) (nr (Abs.rowAt b0_2 (Int.toNat t3)) 3) (nr (Abs.rowAt b0_2 (Int.toNat t3)) 4) (nr (Abs.rowAt b0_2 (Int.toNat t3)) 5) (nr (Abs.rowAt b0_2 (Int.toNat t3)) 6)))], []))
  (goF E (callOf L107) F112 0 m P112_5 (M112_5 t3 b0 b0_1 b0_2)))
  none) := by kernel_rfl

theorem e112_4 (m : Nat)  : goF E (callOf L107) F112 0 (m + 1) P112_4 (M112_4 ) =
  (some ([.one (.int .i64 0)], [])) := by kernel_rfl

theorem e112_5 (m : Nat) (t3 b0 b0_1 : Int) (b0_2 : List (List Cell)) : goF E (callOf L107) F112 0 (m + 1) P112_5 (M112_5 t3 b0 b0_1 b0_2) =
  (goF E (callOf L107) F112 0 m P112_6 (M112_6 t3 0 b0 b0_1 b0_2)) := by kernel_rfl

theorem e112_6 (m : Nat) (t3 t5 b0 b0_1 : Int) (b0_2 : List (List Cell)) : goF E (callOf L107) F112 0 (m + 1) P112_6 (M112_6 t3 t5 b0 b0_1 b0_2) =
  (cond (decide (t5 < t3))
  (goF E (callOf L107) F112 0 m P112_7 (M112_7 t3 t5 b0 b0_1 b0_2))
  (goF E (callOf L107) F112 0 m P112_8 (M112_8 t3 b0 b0_1 b0_2))) := by kernel_rfl

theorem e112_7 (m : Nat) (t3 t5 b0 b0_1 : Int) (b0_2 : List (List Cell)) : goF E (callOf L107) F112 0 (m + 1) P112_7 (M112_7 t3 t5 b0 b0_1 b0_2) =
  (cond (inB t5 b0_2.length)
  (cond (inB t3 b0_2.length)
  (cond ((nr (Abs.rowAt b0_2 (Int.toNat t5)) 0) == (nr (Abs.rowAt b0_2 (Int.toNat t3)) 0))
  (cond (inB t5 b0_2.length)
  (cond (inB t3 b0_2.length)
  (goF E (callOf L107) F112 0 m P112_9 (M112_9 t3 t5 ((nr (Abs.rowAt b0_2 (Int.toNat t5)) 1) == (nr (Abs.rowAt b0_2 (Int.toNat t3)) 1)) b0 b0_1 b0_2))
  none)
  none)
  (goF E (callOf L107) F112 0 m P112_9 (M112_9 t3 t5 false b0 b0_1 b0_2)))
  none)
  none) := by kernel_rfl

theorem e112_8 (m : Nat) (t3 b0 b0_1 : Int) (b0_2 : List (List Cell)) : goF E (callOf L107) F112 0 (m + 1) P112_8 (M112_8 t3 b0 b0_1 b0_2) =
  (goF E (callOf L107) F112 0 m P112_2 (M112_2 (IntKind.wrap .i64 (t3 + 1)) b0 b0_1 b0_2)) := by kernel_rfl

theorem e112_9 (m : Nat) (t3 t5 : Int) (t79 : Bool) (b0 b0_1 : Int) (b0_2 : List (List Cell)) : goF E (callOf L107) F112 0 (m + 1) P112_9 (M112_9 t3 t5 t79 b0 b0_1 b0_2) =
  (cond t79
  (some ([.one (.int .i64 5)], []))
  (goF E (callOf L107) F112 0 m P112_10 (M112_10 t3 t5 b0 b0_1 b0_2))) := by kernel_rfl

theorem e112_10 (m : Nat) (t3 t5 b0 b0_1 : Int) (b0_2 : List (List Cell)) : goF E (callOf L107) F112 0 (m + 1) P112_10 (M112_10 t3 t5 b0 b0_1 b0_2) =
  (goF E (callOf L107) F112 0 m P112_6 (M112_6 t3 (IntKind.wrap .i64 (t5 + 1)) b0 b0_1 b0_2)) := by kernel_rfl

theorem e140 (m : Nat) (n : Int) : runF E (callOf L112) (m + 1) 140 [.one (.int .i64 n)] [] =
  (some ([.one (.bool (n != n))], [])) := by kernel_rfl

theorem e127 (m : Nat) (x y : Int) : runF E (callOf L140) (m + 1) 127 [.one (.int .i64 x), .one (.int .i64 y)] [] =
  (cond false
  (cond false
  (some ([.one (.int .i64 0)], []))
  (some ([.one (.int .i64 (-1))], [])))
  (cond false
  (some ([.one (.int .i64 1)], []))
  (cond (decide (x < y))
  (some ([.one (.int .i64 (-1))], []))
  (cond (decide (x > y))
  (some ([.one (.int .i64 1)], []))
  (some ([.one (.int .i64 0)], [])))))) := by kernel_rfl

noncomputable def P126_0 : List AItem := F126.at [.snd, .snd, .fst, .snd, .sub, .head]

def M126_0 (t3 : Int) (t6 : List (List Cell)) (t7 : Int) (t8 : Int) : St := ⟨[(3, .one (.int .i64 t3)), (6, .one (.sl false 3 t6)), (7, .one (.int .i64 t7)), (8, .one (.int .i64 t8))], []⟩

theorem e126 (m : Nat) (l : List (List Cell)) : runF E (callOf L127) (m + 1) 126 [.one (.sl false 3 l)] [] =
  (goF E (callOf L127) F126 0 m P126_0 (M126_0 0 l (l.length : Int) 0)) := by kernel_rfl

theorem e126_0 (m : Nat) (t3 : Int) (t6 : List (List Cell)) (t7 t8 : Int) : goF E (callOf L127) F126 0 (m + 1) P126_0 (M126_0 t3 t6 t7 t8) =
  (cond (decide (t8 < t7))
  (cond (inB t8 t6.length)
  (cond ((nr (Abs.rowAt t6 (Int.toNat t8)) 0) != t3)
  (some ([.one (.int .i64 (nr (Abs.rowAt t6 (Int.toNat t8)) 0))], []))
  (goF E (callOf L127) F126 0 m P126_0 (M126_0 t3 t6 t7 (IntKind.wrap .i64 (t8 + 1)))))
  none)
  (some ([.one (.int .i64 t3)], []))) := by kernel_rfl

theorem e108 (m : Nat) (ap np : Int) (cp : List (List Cell)) (aq nq : Int) (cq : List (List Cell)) : runF E (callOf L126) (m + 1) 108 [.agg [.int .i64 ap, .int .i64 np, .sl false 89 cp], .agg [.int .i64 aq, .int .i64 nq, .sl false 89 cq]] [] =
  (cond (decide ([[Cell.int .i64 (cmpI ap aq)], [Cell.int .i64 (cmpI np nq)]].length < 9223372036854775808))
  (some ([.one (.int .i64 (orI1 [[Cell.int .i64 (cmpI ap aq)], [Cell.int .i64 (cmpI np nq)]]))], []))
  none) := by kernel_rfl

theorem e113 (m : Nat) (ap np : Int) (cp : List (List Cell)) (aq nq : Int) (cq : List (List Cell)) : runF E (callOf L108) (m + 1) 113 [.agg [.int .i64 ap, .int .i64 np, .sl false 89 cp], .agg [.int .i64 aq, .int .i64 nq, .sl false 89 cq]] [] =
  (cond (decide (ap < aq))
  (some ([.one (.int .i64 (-1))], []))
  (cond (ap == aq)
  (cond (decide (np < nq))
  (some ([.one (.int .i64 (-1))], []))
  (cond (ap == aq)
  (cond (np == nq)
  (some ([.one (.int .i64 0)], []))
  (some ([.one (.int .i64 1)], [])))
  (some ([.one (.int .i64 1)], []))))
  (cond (ap == aq)
  (cond (np == nq)
  (some ([.one (.int .i64 0)], []))
  (some ([.one (.int .i64 1)], [])))
  (some ([.one (.int .i64 1)], []))))) := by kernel_rfl

noncomputable def P91_0 : List AItem := F91.at [.snd, .snd, .fst, .snd, .sub, .head]

def M91_0 (t5 : Int) (b0 : Int) (b0_1 : Int) (b0_2 : List (List Cell)) (b1 : Int) (b1_1 : Int) (b1_2 : List (List Cell)) : St := ⟨[(2, .one (.ptr 0 0)), (3, .one (.ptr 1 0)), (5, .one (.int .i64 t5))], [.var [.int .i64 b0, .int .i64 b0_1, .sl false 89 b0_2], .var [.int .i64 b1, .int .i64 b1_1, .sl false 89 b1_2]]⟩

theorem e91 (m : Nat) (ap np : Int) (cp : List (List Cell)) (aq nq : Int) (cq : List (List Cell)) : runF E (callOf L113) (m + 1) 91 [.agg [.int .i64 ap, .int .i64 np, .sl false 89 cp], .agg [.int .i64 aq, .int .i64 nq, .sl false 89 cq]] [] =
  (cond (ap != aq)
  (some ([.one (.bool false)], []))
  (cond (np != nq)
  (some ([.one (.bool false)], []))
  (cond ((cp.length : Int) != (cq.length : Int))
  (some ([.one (.bool false)], []))
  (goF E (callOf L113) F91 0 m P91_0 (M91_0 0 ap np cp aq nq cq))))) := by kernel_rfl

theorem e91_0 (m : Nat) (t5 b0 b0_1 : Int) (b0_2 : List (List Cell)) (b1 b1_1 : Int) (b1_2 : List (List Cell)) : goF E (callOf L113) F91 0 (m + 1) P91_0 (M91_0 t5 b0 b0_1 b0_2 b1 b1_1 b1_2) =
  (cond (decide (t5 < (b0_2.length : Int)))
  (cond (inB t5 b0_2.length)
  (cond (inB t5 b1_2.length)
  (cond (!(((nr (Abs.rowAt b0_2 (Int.toNat t5)) 0) == (nr (Abs.rowAt b1_2 (Int.toNat t5)) 0)) && (((nr (Abs.rowAt b0_2 (Int.toNat t5)) 1) == (nr (Abs.rowAt b1_2 (Int.toNat t5)) 1)) && (((nr (Abs.rowAt b0_2 (Int.toNat t5)) 2) == (nr (Abs.rowAt b1_2 (Int.toNat t5)) 2)) && (((nr (Abs.rowAt b0_2 (Int.toNat t5)) 3) == (nr (Abs.rowAt b1_2 (Int.toNat t5)) 3)) && (((nr (Abs.rowAt b0_2 (Int.toNat t5)) 4) == (nr (Abs.rowAt b1_2 (Int.toNat t5)) 4)) && (((nr (Abs.rowAt b0_2 (Int.toNat t5)) 5) == (nr (Abs.rowAt b1_2 (Int.toNat t5)) 5)) && (((nr (Abs.rowAt b0_2 (Int.toNat t5)) 6) == (nr (Abs.rowAt b1_2 (Int.toNat t5)) 6)) && true))))))))
  (some ([.one (.bool false)], []))
  (goF E (callOf L113) F91 0 m P91_0 (M91_0 (IntKind.wrap .i64 (t5 + 1)) b0 b0_1 b0_2 b1 b1_1 b1_2)))
  none)
  none)
  (some ([.one (.bool true)], []))) := by kernel_rfl

noncomputable def P76_0 : List AItem := F76.at [.snd, (.jump 0)]

def M76_0 (t0 : List (List Cell)) (t5 : Int) (t6 : Int) : St := ⟨[(0, .one (.sl false 5 t0)), (5, .one (.int .u64 t5)), (6, .one (.int .i64 t6))], []⟩

theorem e76 (m : Nat) (x : List (List Cell)) : runF E (callOf L91) (m + 1) 76 [.one (.sl false 5 x)] [] =
  (cond ((0 : Int) == (x.length : Int))
  (some ([.one (.int .u64 0), .one (.int .i64 0), .one (.int .i64 1)], []))
  (cond (inB 0 x.length)
  (cond (decide ((nr (Abs.rowAt x 0) 0) ≥ 128))
  (goF E (callOf L91) F76 0 m P76_0 (M76_0 x (orI .u64 0 (shlI .u64 (IntKind.wrap .u64 (andNotI .u8 (nr (Abs.rowAt x 0) 0) 128)) 0)) 1))
  (cond ((nr (Abs.rowAt x 0) 0) == 0)
  (some ([.one (.int .u64 (orI .u64 0 (shlI .u64 (IntKind.wrap .u64 (andNotI .u8 (nr (Abs.rowAt x 0) 0) 128)) 0))), .one (.int .i64 1), .one (.int .i64 0)], []))
  (some ([.one (.int .u64 (orI .u64 0 (shlI .u64 (IntKind.wrap .u64 (andNotI .u8 (nr (Abs.rowAt x 0) 0) 128)) 0))), .one (.int .i64 1), .one (.int .i64 0)], []))))
  none)) := by kernel_rfl

theorem e76_0 (m : Nat) (t0 : List (List Cell)) (t5 t6 : Int) : goF E (callOf L91) F76 0 (m + 1) P76_0 (M76_0 t0 t5 t6) =
  (cond (t6 == (t0.length : Int))
  (some ([.one (.int .u64 0), .one (.int .i64 0), .one (.int .i64 1)], []))
  (cond (inB t6 t0.length)
  (cond (t6 == 9)
  (cond (decide ((nr (Abs.rowAt t0 (Int.toNat t6)) 0) > 1))
  (some ([.one (.int .u64 0), .one (.int .i64 0), .one (.int .i64 9)], []))
  (cond (decide ((IntKind.wrap .i64 (7 * t6)) < 0))
  none
  (cond (decide ((nr (Abs.rowAt t0 (Int.toNat t6)) 0) ≥ 128))
  (goF E (callOf L91) F76 0 m P76_0 (M76_0 t0 (orI .u64 t5 (shlI .u64 (IntKind.wrap .u64 (andNotI .u8 (nr (Abs.rowAt t0 (Int.toNat t6)) 0) 128)) (IntKind.wrap .i64 (7 * t6)))) (IntKind.wrap .i64 (t6 + 1))))
  (cond ((nr (Abs.rowAt t0 (Int.toNat t6)) 0) == 0)
  (cond (decide ((IntKind.wrap .i64 (t6 + 1)) > 1))
  (some ([.one (.int .u64 0), .one (.int .i64 0), .one (.int .i64 2)], []))
  (some ([.one (.int .u64 (orI .u64 t5 (shlI .u64 (IntKind.wrap .u64 (andNotI .u8 (nr (Abs.rowAt t0 (Int.toNat t6)) 0) 128)) (IntKind.wrap .i64 (7 * t6))))), .one (.int .i64 (IntKind.wrap .i64 (t6 + 1))), .one (.int .i64 0)], [])))
  (some ([.one (.int .u64 (orI .u64 t5 (shlI .u64 (IntKind.wrap .u64 (andNotI .u8 (nr (Abs.rowAt t0 (Int.toNat t6)) 0) 128)) (IntKind.wrap .i64 (7 * t6))))), .one (.int .i64 (IntKind.wrap .i64 (t6 + 1))), .one (.int .i64 0)], []))))))
  (cond (decide ((IntKind.wrap .i64 (7 * t6)) < 0))
  none
  (cond (decide ((nr (Abs.rowAt t0 (Int.toNat t6)) 0) ≥ 128))
  (goF E (callOf L91) F76 0 m P76_0 (M76_0 t0 (orI .u64 t5 (shlI .u64 (IntKind.wrap .u64 (andNotI .u8 (nr (Abs.rowAt t0 (Int.toNat t6)) 0) 128)) (IntKind.wrap .i64 (7 * t6)))) (IntKind.wrap .i64 (t6 + 1))))
  (cond ((nr (Abs.rowAt t0 (Int.toNat t6)) 0) == 0)
  (cond (decide ((IntKind.wrap .i64 (t6 + 1)) > 1))
  (some ([.one (.int .u64 0), .one (.int .i64 0), .one (.int .i64 2)], []))
  (some ([.one (.int .u64 (orI .u64 t5 (shlI .u64 (IntKind.wrap .u64 (andNotI .u8 (nr (Abs.rowAt t0 (Int.toNat t6)) 0) 128)) (IntKind.wrap .i64 (7 * t6))))), .one (.int .i64 (IntKind.wrap .i64 (t6 + 1))), .one (.int .i64 0)], [])))
  (some ([.one (.int .u64 (orI .u64 t5 (shlI .u64 (IntKind.wrap .u64 (andNotI .u8 (nr (Abs.rowAt t0 (Int.toNat t6)) 0) 128)) (IntKind.wrap .i64 (7 * t6))))), .one (.int .i64 (IntKind.wrap .i64 (t6 + 1))), .one (.int .i64 0)], []))))))
  none)) := by kernel_rfl

noncomputable def P85_0 : List AItem := F85.at [.snd, .snd, .fst, .snd, .sub, .head]

def M85_0 (t0 : List (List Cell)) (t5 : Int) (t6 : Int) : St := ⟨[(0, .one (.sl false 5 t0)), (5, .one (.int .u64 t5)), (6, .one (.int .i64 t6))], []⟩

theorem e85 (m : Nat) (x : List (List Cell)) : runF E (callOf L76) (m + 1) 85 [.one (.sl false 5 x)] [] =
  (goF E (callOf L76) F85 0 m P85_0 (M85_0 x 0 0)) := by kernel_rfl

theorem e85_0 (m : Nat) (t0 : List (List Cell)) (t5 t6 : Int) : goF E (callOf L76) F85 0 (m + 1) P85_0 (M85_0 t0 t5 t6) =
  (cond (decide (t6 < 10))
  (cond (t6 == (t0.length : Int))
  (some ([.one (.int .u64 0), .one (.int .i64 0), .one (.int .i64 1)], []))
  (cond (t6 == 9)
  (cond (inB t6 t0.length)
  (cond (decide ((nr (Abs.rowAt t0 (Int.toNat t6)) 0) > 1))
  (some ([.one (.int .u64 0), .one (.int .i64 0), .one (.int .i64 9)], []))
  (cond (inB t6 t0.length)
  (cond (decide ((IntKind.wrap .u64 (IntKind.wrap .i64 (7 * t6))) < 0))
  none
  (cond (inB t6 t0.length)
  (cond (decide ((nr (Abs.rowAt t0 (Int.toNat t6)) 0) < 128))
  (cond (inB t6 t0.length)
  (cond ((nr (Abs.rowAt t0 (Int.toNat t6)) 0) == 0)
  (cond (decide (t6 > 0))
  (some ([.one (.int .u64 0), .one (.int .i64 0), .one (.int .i64 2)], []))
  (some ([.one (.int .u64 (orI .u64 t5 (shlI .u64 (IntKind.wrap .u64 (Int.tmod (nr (Abs.rowAt t0 (Int.toNat t6)) 0) 128)) (IntKind.wrap .u64 (IntKind.wrap .i64 (7 * t6)))))), .one (.int .i64 (IntKind.wrap .i64 (t6 + 1))), .one (.int .i64 0)], [])))
  (some ([.one (.int .u64 (orI .u64 t5 (shlI .u64 (IntKind.wrap .u64 (Int.tmod (nr (Abs.rowAt t0 (Int.toNat t6)) 0) 128)) (IntKind.wrap .u64 (IntKind.wrap .i64 (7 * t6)))))), .one (.int .i64 (IntKind.wrap .i64 (t6 + 1))), .one (.int .i64 0)], [])))
  none)
  (goF E (callOf L76) F85 0 m P85_0 (M85_0 t0 (orI .u64 t5 (shlI .u64 (IntKind.wrap .u64 (Int.tmod (nr (Abs.rowAt t0 (Int.toNat t6)) 0) 128)) (IntKind.wrap .u64 (IntKind.wrap .i64 (7 * t6))))) (IntKind.wrap .i64 (t6 + 1)))))
  none))
  none))
  none)
  (cond (inB t6 t0.length)
  (cond (decide ((IntKind.wrap .u64 (IntKind.wrap .i64 (7 * t6))) < 0))
  none
  (cond (inB t6 t0.length)
  (cond (decide ((nr (Abs.rowAt t0 (Int.toNat t6)) 0) < 128))
  (cond (inB t6 t0.length)
  (cond ((nr (Abs.rowAt t0 (Int.toNat t6)) 0) == 0)
  (cond (decide (t6 > 0))
  (some ([.one (.int .u64 0), .one (.int .i64 0), .one (.int .i64 2)], []))
  (some ([.one (.int .u64 (orI .u64 t5 (shlI .u64 (IntKind.wrap .u64 (Int.tmod (nr (Abs.rowAt t0 (Int.toNat t6)) 0) 128)) (IntKind.wrap .u64 (IntKind.wrap .i64 (7 * t6)))))), .one (.int .i64 (IntKind.wrap .i64 (t6 + 1))), .one (.int .i64 0)], [])))
  (some ([.one (.int .u64 (orI .u64 t5 (shlI .u64 (IntKind.wrap .u64 (Int.tmod (nr (Abs.rowAt t0 (Int.toNat t6)) 0) 128)) (IntKind.wrap .u64 (IntKind.wrap .i64 (7 * t6)))))), .one (.int .i64 (IntKind.wrap .i64 (t6 + 1))), .one (.int .i64 0)], [])))
  none)
  (goF E (callOf L76) F85 0 m P85_0 (M85_0 t0 (orI .u64 t5 (shlI .u64 (IntKind.wrap .u64 (Int.tmod (nr (Abs.rowAt t0 (Int.toNat t6)) 0) 128)) (IntKind.wrap .u64 (IntKind.wrap .i64 (7 * t6))))) (IntKind.wrap .i64 (t6 + 1)))))
  none))
  none)))
  (some ([.one (.int .u64 0), .one (.int .i64 0), .one (.int .i64 9)], []))) := by kernel_rfl

theorem e134 (m : Nat) (b : List (List Cell)) (o e : Int) : runF E (callOf L85) (m + 1) 134 [.one (.ptr 0 0)] [.var [.sl false 5 b, .int .i64 o, .int .i64 e]] =
  (cond (e != 0)
  (some ([.one (.int .i64 0)], [.var [.sl false 5 b, .int .i64 o, .int .i64 e]]))
  (cond (inB o (b.length + 1))
  (cond (okRd (dropN b (Int.toNat o)))
  (cond ((udec (dropN b (Int.toNat o))).2.2 != 0)
  (some ([.one (.int .i64 0)], [.var [.sl false 5 b, .int .i64 o, .int .i64 (udec (dropN b (Int.toNat o))).2.2]]))
  (cond (decide ((udec (dropN b (Int.toNat o))).1 > 2147483647))
  (some ([.one (.int .i64 0)], [.var [.sl false 5 b, .int .i64 o, .int .i64 9]]))
  (some ([.one (.int .i64 (IntKind.wrap .i64 (udec (dropN b (Int.toNat o))).1))], [.var [.sl false 5 b, .int .i64 (IntKind.wrap .i64 (o + (udec (dropN b (Int.toNat o))).2.1)), .int .i64 e]]))))
  none)
  none)) := by kernel_rfl

noncomputable def P116_0 : List AItem := F116.at [.snd, .snd, .snd, .snd, .snd, .snd, .fst, .snd, .sub, .head]

def M116_0 (t7 : Int) (t8 : Int) (b0 : Int) (b0_1 : Int) (b0_2 : List (List Cell)) (b1 : List (List Cell)) (b1_1 : Int) (b1_2 : Int) (b2 : Int) (b2_1 : Int) (b2_2 : List (List Cell)) : St := ⟨[(2, .one (.ptr 0 0)), (5, .one (.ptr 1 0)), (6, .one (.ptr 2 0)), (7, .one (.int .i64 t7)), (8, .one (.int .i64 t8))], [.var [.int .i64 b0, .int .i64 b0_1, .sl true 89 b0_2], .var [.sl false 5 b1, .int .i64 b1_1, .int .i64 b1_2], .var [.int .i64 b2, .int .i64 b2_1, .sl true 89 b2_2]]⟩

theorem e116 (m : Nat) (x : List (List Cell)) : runF E (callOf L134) (m + 1) 116 [.one (.sl false 5 x)] [] =
  (cond (okAt x 0)
  (cond (okAt x (rnum x 0 0).2.1)
  (cond (okAt x (rnum x (rnum x 0 0).2.1 (rnum x 0 0).2.2).2.1)
  (cond ((rnum x (rnum x (rnum x 0 0).2.1 (rnum x 0 0).2.2).2.1 (rnum x (rnum x 0 0).2.1 (rnum x 0 0).2.2).2.2).2.2 == 0)
  (cond (decide ((rnum x (rnum x (rnum x 0 0).2.1 (rnum x 0 0).2.2).2.1 (rnum x (rnum x 0 0).2.1 (rnum x 0 0).2.2).2.2).1 > 6))
  (goF E (callOf L134) F116 0 m P116_0 (M116_0 (rnum x (rnum x (rnum x 0 0).2.1 (rnum x 0 0).2.2).2.1 (rnum x (rnum x 0 0).2.1 (rnum x 0 0).2.2).2.2).1 0 0 0 ([] : List (List Cell)) x (rnum x (rnum x (rnum x 0 0).2.1 (rnum x 0 0).2.2).2.1 (rnum x (rnum x 0 0).2.1 (rnum x 0 0).2.2).2.2).2.1 3 (rnum x 0 0).1 (rnum x (rnum x 0 0).2.1 (rnum x 0 0).2.2).1 ([] : List (List Cell))))
  (goF E (callOf L134) F116 0 m P116_0 (M116_0 (rnum x (rnum x (rnum x 0 0).2.1 (rnum x 0 0).2.2).2.1 (rnum x (rnum x 0 0).2.1 (rnum x 0 0).2.2).2.2).1 0 0 0 ([] : List (List Cell)) x (rnum x (rnum x (rnum x 0 0).2.1 (rnum x 0 0).2.2).2.1 (rnum x (rnum x 0 0).2.1 (rnum x 0 0).2.2).2.2).2.1 (rnum x (rnum x (rnum x 0 0).2.1 (rnum x 0 0).2.2).2.1 (rnum x (rnum x 0 0).2.1 (rnum x 0 0).2.2).2.2).2.2 (rnum x 0 0).1 (rnum x (rnum x 0 0).2.1 (rnum x 0 0).2.2).1 ([] : List (List Cell)))))
  (goF E (callOf L134) F116 0 m P116_0 (M116_0 (rnum x (rnum x (rnum x 0 0).2.1 (rnum x 0 0).2.2).2.1 (rnum x (rnum x 0 0).2.1 (rnum x 0 0).2.2).2.2).1 0 0 0 ([] : List (List Cell)) x (rnum x (rnum x (rnum x 0 0).2.1 (rnum x 0 0).2.2).2.1 (rnum x (rnum x 0 0).2.1 (rnum x 0 0).2.2).2.2).2.1 (rnum x (rnum x (rnum x 0 0).2.1 (rnum x 0 0).2.2).2.1 (rnum x (rnum x 0 0).2.1 (rnum x 0 0).2.2).2.2).2.2 (rnum x 0 0).1 (rnum x (rnum x 0 0).2.1 (rnum x 0 0).2.2).1 ([] : List (List Cell)))))
  none)
  none)
  none) := by kernel_rfl

theorem e116_0 (m : Nat) (t7 t8 b0 b0_1 : Int) (b0_2 b1 : List (List Cell)) (b1_1 b1_2 b2 b2_1 : Int) (b2_2 : List (List Cell)) : goF E (callOf L134) F116 0 (m + 1) P116_0 (M116_0 t7 t8 b0 b0_1 b0_2 b1 b1_1 b1_2 b2 b2_1 b2_2) =
  let z2 := rnum b1 (rnum b1 b1_1 b1_2).2.1 (rnum b1 b1_1 b1_2).2.2
  let z1 := rnum b1 (rnum b1 z2.2.1 z2.2.2).2.1 (rnum b1 z2.2.1 z2.2.2).2.2
  let z3 := rnum b1 (rnum b1 z1.2.1 z1.2.2).2.1 (rnum b1 z1.2.1 z1.2.2).2.2
  (cond (decide (t8 < t7))
  (cond (b1_2 == 0)
  (cond (okAt b1 b1_1)
  (cond (okAt b1 (rnum b1 b1_1 b1_2).2.1)
  (cond (okAt b1 z2.2.1)
  (cond (okAt b1 (rnum b1 z2.2.1 z2.2.2).2.1)
  (cond (okAt b1 z1.2.1)
  (cond (okAt b1 (rnum b1 z1.2.1 z1.2.2).2.1)
  (cond (okAt b1 z3.2.1)
  (cond (fits (b2_2.length + [[Cell.int .i64 (rnum b1 b1_1 b1_2).1, Cell.int .i64 z2.1, Cell.int .i64 (rnum b1 z2.2.1 z2.2.2).1, Cell.int .i64 z1.1, Cell.int .i64 (rnum b1 z1.2.1 z1.2.2).1, Cell.int .i64 z3.1, Cell.int .i64 (rnum b1 z3.2.1 z3.2.2).1]].length))
  (goF E (callOf L134) F116 0 m P116_0 (M116_0 t7 (IntKind.wrap .i64 (t8 + 1)) b0 b0_1 b0_2 b1 (rnum b1 z3.2.1 z3.2.2).2.1 (rnum b1 z3.2.1 z3.2.2).2.2 b2 b2_1 (b2_2 ++ [[Cell.int .i64 (rnum b1 b1_1 b1_2).1, Cell.int .i64 z2.1, Cell.int .i64 (rnum b1 z2.2.1 z2.2.2).1, Cell.int .i64 z1.1, Cell.int .i64 (rnum b1 z1.2.1 z1.2.2).1, Cell.int .i64 z3.1, Cell.int .i64 (rnum b1 z3.2.1 z3.2.2).1]])))
  none)
  none)
  none)
  none)
  none)
  none)
  none)
  none)
  (cond (b1_2 == 0)
  (cond (decide (b2_2.length < 9223372036854775808))
  (cond ((vProp b2 b2_1 b2_2) != 0)
  (some ([.agg [.int .i64 0, .int .i64 0, .sl true 89 ([] : List (List Cell))], .one (.int .i64 0), .one (.int .i64 (vProp b2 b2_1 b2_2))], []))
  (some ([.agg [.int .i64 b2, .int .i64 b2_1, .sl true 89 b2_2], .one (.int .i64 b1_1), .one (.int .i64 0)], [])))
  none)
  (cond (b1_2 != 0)
  (some ([.agg [.int .i64 0, .int .i64 0, .sl true 89 ([] : List (List Cell))], .one (.int .i64 0), .one (.int .i64 b1_2)], []))
  (some ([.agg [.int .i64 b2, .int .i64 b2_1, .sl true 89 b2_2], .one (.int .i64 b1_1), .one (.int .i64 0)], [])))))
  (cond (b1_2 == 0)
  (cond (decide (b2_2.length < 9223372036854775808))
  (cond ((vProp b2 b2_1 b2_2) != 0)
  (some ([.agg [.int .i64 0, .int .i64 0, .sl true 89 ([] : List (List Cell))], .one (.int .i64 0), .one (.int .i64 (vProp b2 b2_1 b2_2))], []))
  (some ([.agg [.int .i64 b2, .int .i64 b2_1, .sl true 89 b2_2], .one (.int .i64 b1_1), .one (.int .i64 0)], [])))
  none)
  (cond (b1_2 != 0)
  (some ([.agg [.int .i64 0, .int .i64 0, .sl true 89 ([] : List (List Cell))], .one (.int .i64 0), .one (.int .i64 b1_2)], []))
  (some ([.agg [.int .i64 b2, .int .i64 b2_1, .sl true 89 b2_2], .one (.int .i64 b1_1), .one (.int .i64 0)], []))))) := by kernel_rfl

theorem e33 (m : Nat) (x : List (List Cell)) : runF E (callOf L116) (m + 1) 33 [.one (.sl false 5 x)] [] =
  (cond (okRd x)
  (cond ((udec x).2.2 != 0)
  (some ([.one (.int .i64 0), .one (.int .i64 0), .one (.int .i64 (udec x).2.2)], []))
  (cond (decide ((udec x).1 > 2147483647))
  (some ([.one (.int .i64 0), .one (.int .i64 0), .one (.int .i64 9)], []))
  (some ([.one (.int .i64 (IntKind.wrap .i64 (udec x).1)), .one (.int .i64 (udec x).2.1), .one (.int .i64 0)], []))))
  none) := by kernel_rfl

noncomputable def P34_0 : List AItem := F34.at [.snd, .snd, .snd, .fst, .snd, .sub, .head]

def M34_0 (t0 : List (List Cell)) (t1 : Int) (t7 : List (List Cell)) (t8 : Int) (t9 : Int) : St := ⟨[(0, .one (.sl false 5 t0)), (1, .one (.int .i64 t1)), (7, .one (.sl true 3 t7)), (8, .one (.int .i64 t8)), (9, .one (.int .i64 t9))], []⟩

theorem e34 (m : Nat) (x : List (List Cell)) (c : Int) : runF E (callOf L33) (m + 1) 34 [.one (.sl false 5 x), .one (.int .i64 c)] [] =
  (goF E (callOf L33) F34 0 m P34_0 (M34_0 x c ([] : List (List Cell)) 0 0)) := by kernel_rfl

theorem e34_0 (m : Nat) (t0 : List (List Cell)) (t1 : Int) (t7 : List (List Cell)) (t8 t9 : Int) : goF E (callOf L33) F34 0 (m + 1) P34_0 (M34_0 t0 t1 t7 t8 t9) =
  (cond (decide (t9 < t1))
  (cond (inB t8 (t0.length + 1))
  (cond (okRd (dropN t0 (Int.toNat t8)))
  (cond ((rnum2 (dropN t0 (Int.toNat t8))).2.2 != 0)
  (some ([.one (.sl true 3 ([] : List (List Cell))), .one (.int .i64 0), .one (.int .i64 (rnum2 (dropN t0 (Int.toNat t8))).2.2)], []))
  (cond (fits (t7.length + [[Cell.int .i64 (rnum2 (dropN t0 (Int.toNat t8))).1]].length))
  (goF E (callOf L33) F34 0 m P34_0 (M34_0 t0 t1 (t7 ++ [[Cell.int .i64 (rnum2 (dropN t0 (Int.toNat t8))).1]]) (IntKind.wrap .i64 (t8 + (rnum2 (dropN t0 (Int.toNat t8))).2.1)) (IntKind.wrap .i64 (t9 + 1))))
  none))
  none)
  none)
  (some ([.one (.sl true 3 t7), .one (.int .i64 t8), .one (.int .i64 0)], []))) := by kernel_rfl

noncomputable def P119_0 : List AItem := F119.at [.snd, .snd, .snd, .snd, .snd, .fst, .snd, .sub, .head]

def M119_0 (t0 : List (List Cell)) (t5 : List (List Cell)) (t6 : Int) (t9 : Int) (b0 : Int) (b0_1 : Int) (b0_2 : List (List Cell)) (b1 : Int) (b1_1 : Int) (b1_2 : List (List Cell)) : St := ⟨[(0, .one (.sl false 5 t0)), (2, .one (.ptr 0 0)), (5, .one (.sl false 3 t5)), (6, .one (.int .i64 t6)), (8, .one (.ptr 1 0)), (9, .one (.int .i64 t9))], [.var [.int .i64 b0, .int .i64 b0_1, .sl true 89 b0_2], .var [.int .i64 b1, .int .i64 b1_1, .sl true 89 b1_2]]⟩

theorem e119 (m : Nat) (x : List (List Cell)) : runF E (callOf L34) (m + 1) 119 [.one (.sl false 5 x)] [] =
  (cond (okRd x && decide (3 ≤ 1000))
  (cond ((rread x 3).2.2 != 0)
  (some ([.agg [.int .i64 0, .int .i64 0, .sl true 89 ([] : List (List Cell))], .one (.int .i64 0), .one (.int .i64 (rread x 3).2.2)], []))
  (cond (inB 2 (rread x 3).1.length)
  (cond (decide ((nr (Abs.rowAt (rread x 3).1 2) 0) > 6))
  (some ([.agg [.int .i64 0, .int .i64 0, .sl true 89 ([] : List (List Cell))], .one (.int .i64 0), .one (.int .i64 3)], []))
  (cond (inB 0 (rread x 3).1.length)
  (cond (inB 1 (rread x 3).1.length)
  (goF E (callOf L34) F119 0 m P119_0 (M119_0 x (rread x 3).1 (rread x 3).2.1 0 0 0 ([] : List (List Cell)) (nr (Abs.rowAt (rread x 3).1 0) 0) (nr (Abs.rowAt (rread x 3).1 1) 0) ([] : List (List Cell))))
  none)
  none))
  none))
  none) := by kernel_rfl

theorem e119_0 (m : Nat) (t0 t5 : List (List Cell)) (t6 t9 b0 b0_1 : Int) (b0_2 : List (List Cell)) (b1 b1_1 : Int) (b1_2 : List (List Cell)) : goF E (callOf L34) F119 0 (m + 1) P119_0 (M119_0 t0 t5 t6 t9 b0 b0_1 b0_2 b1 b1_1 b1_2) =
  (cond (inB 2 t5.length)
  (cond (decide (t9 < (nr (Abs.rowAt t5 2) 0)))
  (cond (inB t6 (t0.length + 1))
  (cond (okRd (dropN t0 (Int.toNat t6)) && decide (7 ≤ 1000))
  (cond ((rread (dropN t0 (Int.toNat t6)) 7).2.2 != 0)
  (some ([.agg [.int .i64 0, .int .i64 0, .sl true 89 ([] : List (List Cell))], .one (.int .i64 0), .one (.int .i64 (rread (dropN t0 (Int.toNat t6)) 7).2.2)], []))
  (cond (inB 0 (rread (dropN t0 (Int.toNat t6)) 7).1.length)
  (cond (inB 1 (rread (dropN t0 (Int.toNat t6)) 7).1.length)
  (cond (inB 2 (rread (dropN t0 (Int.toNat t6)) 7).1.length)
  (cond (inB 3 (rread (dropN t0 (Int.toNat t6)) 7).1.length)
  (cond (inB 4 (rread (dropN t0 (Int.toNat t6)) 7).1.length)
  (cond (inB 5 (rread (dropN t0 (Int.toNat t6)) 7).1.length)
  (cond (inB 6 (rread (dropN t0 (Int.toNat t6)) 7).1.length)
  (cond (fits (b1_2.length + [[Cell.int .i64 (nr (Abs.rowAt (rread (dropN t0 (Int.toNat t6)) 7).1 0) 0), Cell.int .i64 (nr (Abs.rowAt (rread (dropN t0 (Int.toNat t6)) 7).1 1) 0), Cell.int .i64 (nr (Abs.rowAt (rread (dropN t0 (Int.toNat t6)) 7).1 2) 0), Cell.int .i64 (nr (Abs.rowAt (rread (dropN t0 (Int.toNat t6)) 7).1 3) 0), Cell.int .i64 (nr (Abs.rowAt (rread (dropN t0 (Int.toNat t6)) 7).1 4) 0), Cell.int .i64 (nr (Abs.rowAt (rread (dropN t0 (Int.toNat t6)) 7).1 5) 0), Cell.int .i64 (nr (Abs.rowAt (rread (dropN t0 (Int.toNat t6)) 7).1 6) 0)]].length))
  (goF E (callOf L34) F119 0 m P119_0 (M119_0 t0 t5 (IntKind.wrap .i64 (t6 + (rread (dropN t0 (Int.toNat t6)) 7).2.1)) (IntKind.wrap .i64 (t9 + 1)) b0 b0_1 b0_2 b1 b1_1 (b1_2 ++ [[Cell.int .i64 (nr (Abs.rowAt (rread (dropN t0 (Int.toNat t6)) 7).1 0) 0), Cell.int .i64 (nr (Abs.rowAt (rread (dropN t0 (Int.toNat t6)) 7).1 1) 0), Cell.int .i64 (nr (Abs.rowAt (rread (dropN t0 (Int.toNat t6)) 7).1 2) 0), Cell.int .i64 (nr (Abs.rowAt (rread (dropN t0 (Int.toNat t6)) 7).1 3) 0), Cell.int .i64 (nr (Abs.rowAt (rread (dropN t0 (Int.toNat t6)) 7).1 4) 0), Cell.int .i64 (nr (Abs.rowAt (rread (dropN t0 (Int.toNat t6)) 7).1 5) 0), Cell.int .i64 (nr (Abs.rowAt (rread (dropN t0 (Int.toNat t6)) 7).1 6) 0)]])))
  none)
  none)
  none)
  none)
  none)
  none)
  none)
  none))
  none)
  none)
  (cond (decide (b1_2.length < 9223372036854775808))
  (cond ((vProp b1 b1_1 b1_2) != 0)
  (some ([.agg [.int .i64 0, .int .i64 0, .sl true 89 ([] : List (List Cell))], .one (.int .i64 0), .one (.int .i64 (vProp b1 b1_1 b1_2))], []))
  (some ([.agg [.int .i64 b1, .int .i64 b1_1, .sl true 89 b1_2], .one (.int .i64 t6), .one (.int .i64 0)], [])))
  none))
  none) := by kernel_rfl

noncomputable def P61_0 : List AItem := F61.at [.snd, .fst, .snd, .sub, .head]

def M61_0 (t0 : List (List Cell)) (t6 : List (List Cell)) (t7 : Int) (t8 : Int) : St := ⟨[(0, .one (.sl false 93 t0)), (6, .one (.sl false 93 t6)), (7, .one (.int .i64 t7)), (8, .one (.int .i64 t8))], []⟩

theorem e61 (m : Nat) (c : List (List Cell)) : runF E (callOf L119) (m + 1) 61 [.one (.sl false 93 c)] [] =
  (goF E (callOf L119) F61 0 m P61_0 (M61_0 c c (c.length : Int) 0)) := by kernel_rfl

theorem e61_0 (m : Nat) (t0 t6 : List (List Cell)) (t7 t8 : Int) : goF E (callOf L119) F61 0 (m + 1) P61_0 (M61_0 t0 t6 t7 t8) =
  (cond (decide (t8 < t7))
  (cond (inB t8 t6.length)
  (cond (decide ((nl (Abs.rowAt t6 (Int.toNat t8)) 2).length < 9223372036854775808))
  (cond ((vProp (nr (Abs.rowAt t6 (Int.toNat t8)) 0) (nr (Abs.rowAt t6 (Int.toNat t8)) 1) (nl (Abs.rowAt t6 (Int.toNat t8)) 2)) != 0)
  (some ([.one (.int .i64 (vProp (nr (Abs.rowAt t6 (Int.toNat t8)) 0) (nr (Abs.rowAt t6 (Int.toNat t8)) 1) (nl (Abs.rowAt t6 (Int.toNat t8)) 2)))], []))
  (cond (decide (t8 > 0))
  (cond (inB (IntKind.wrap .i64 (t8 - 1)) t0.length)
  (cond (decide ((cmpP (nr (Abs.rowAt t6 (Int.toNat t8)) 0) (nr (Abs.rowAt t6 (Int.toNat t8)) 1) (nr (Abs.rowAt t0 (Int.toNat (IntKind.wrap .i64 (t8 - 1)))) 0) (nr (Abs.rowAt t0 (Int.toNat (IntKind.wrap .i64 (t8 - 1)))) 1)) ≤ 0))
  (some ([.one (.int .i64 7)], []))
  (cond (decide ((nr (Abs.rowAt t6 (Int.toNat t8)) 1) > 1))
  (cond (t8 == 0)
  (some ([.one (.int .i64 8)], []))
  (cond (inB (IntKind.wrap .i64 (t8 - 1)) t0.length)
  (cond ((nr (Abs.rowAt t0 (Int.toNat (IntKind.wrap .i64 (t8 - 1)))) 0) != (nr (Abs.rowAt t6 (Int.toNat t8)) 0))
  (some ([.one (.int .i64 8)], []))
  (cond (inB (IntKind.wrap .i64 (t8 - 1)) t0.length)
  (cond ((nr (Abs.rowAt t0 (Int.toNat (IntKind.wrap .i64 (t8 - 1)))) 1) != (IntKind.wrap .i64 ((nr (Abs.rowAt t6 (Int.toNat t8)) 1) - 1)))
  (some ([.one (.int .i64 8)], []))
  (goF E (callOf L119) F61 0 m P61_0 (M61_0 t0 t6 t7 (IntKind.wrap .i64 (t8 + 1)))))
  none))
  none))
  (goF E (callOf L119) F61 0 m P61_0 (M61_0 t0 t6 t7 (IntKind.wrap .i64 (t8 + 1))))))
  none)
  (cond (decide ((nr (Abs.rowAt t6 (Int.toNat t8)) 1) > 1))
  (cond (t8 == 0)
  (some ([.one (.int .i64 8)], []))
  (cond (inB (IntKind.wrap .i64 (t8 - 1)) t0.length)
  (cond ((nr (Abs.rowAt t0 (Int.toNat (IntKind.wrap .i64 (t8 - 1)))) 0) != (nr (Abs.rowAt t6 (Int.toNat t8)) 0))
  (some ([.one (.int .i64 8)], []))
  (cond (inB (IntKind.wrap .i64 (t8 - 1)) t0.length)
  (cond ((nr (Abs.rowAt t0 (Int.toNat (IntKind.wrap .i64 (t8 - 1)))) 1) != (IntKind.wrap .i64 ((nr (Abs.rowAt t6 (Int.toNat t8)) 1) - 1)))
  (some ([.one (.int .i64 8)], []))
  (goF E (callOf L119) F61 0 m P61_0 (M61_0 t0 t6 t7 (IntKind.wrap .i64 (t8 + 1)))))
  none))
  none))
  (goF E (callOf L119) F61 0 m P61_0 (M61_0 t0 t6 t7 (IntKind.wrap .i64 (t8 + 1)))))))
  none)
  none)
  (some ([.one (.int .i64 0)], []))) := by kernel_rfl

noncomputable def P70_0 : List AItem := F70.at [.snd, .fst, .snd, .sub, .head]

def M70_0 (t0 : List (List Cell)) (t3 : Int) : St := ⟨[(0, .one (.sl false 93 t0)), (3, .one (.int .i64 t3))], []⟩

theorem e70 (m : Nat) (c : List (List Cell)) : runF E (callOf L61) (m + 1) 70 [.one (.sl false 93 c)] [] =
  (goF E (callOf L61) F70 0 m P70_0 (M70_0 c 0)) := by kernel_rfl

theorem e70_0 (m : Nat) (t0 : List (List Cell)) (t3 : Int) : goF E (callOf L61) F70 0 (m + 1) P70_0 (M70_0 t0 t3) =
  (cond (decide (t3 < (t0.length : Int)))
  (cond (inB t3 t0.length)
  (cond (decide ((nl (Abs.rowAt t0 (Int.toNat t3)) 2).length < 9223372036854775808))
  (cond ((vProp (nr (Abs.rowAt t0 (Int.toNat t3)) 0) (nr (Abs.rowAt t0 (Int.toNat t3)) 1) (nl (Abs.rowAt t0 (Int.toNat t3)) 2)) != 0)
  (some ([.one (.int .i64 (vProp (nr (Abs.rowAt t0 (Int.toNat t3)) 0) (nr (Abs.rowAt t0 (Int.toNat t3)) 1) (nl (Abs.rowAt t0 (Int.toNat t3)) 2)))], []))
  (cond (decide (t3 > 0))
  (cond (inB (IntKind.wrap .i64 (t3 - 1)) t0.length)
  (cond (inB t3 t0.length)
  (cond (decide ((cmpP (nr (Abs.rowAt t0 (Int.toNat (IntKind.wrap .i64 (t3 - 1)))) 0) (nr (Abs.rowAt t0 (Int.toNat (IntKind.wrap .i64 (t3 - 1)))) 1) (nr (Abs.rowAt t0 (Int.toNat t3)) 0) (nr (Abs.rowAt t0 (Int.toNat t3)) 1)) ≥ 0))
  (some ([.one (.int .i64 7)], []))
  (cond (inB t3 t0.length)
  (cond (decide ((nr (Abs.rowAt t0 (Int.toNat t3)) 1) > 1))
  (cond (t3 == 0)
  (some ([.one (.int .i64 8)], []))
  (cond (inB (IntKind.wrap .i64 (t3 - 1)) t0.length)
  (cond (inB t3 t0.length)
  (cond ((nr (Abs.rowAt t0 (Int.toNat (IntKind.wrap .i64 (t3 - 1)))) 0) != (nr (Abs.rowAt t0 (Int.toNat t3)) 0))
  (some ([.one (.int .i64 8)], []))
  (cond (inB (IntKind.wrap .i64 (t3 - 1)) t0.length)
  (cond (inB t3 t0.length)
  (cond ((nr (Abs.rowAt t0 (Int.toNat (IntKind.wrap .i64 (t3 - 1)))) 1) != (IntKind.wrap .i64 ((nr (Abs.rowAt t0 (Int.toNat t3)) 1) - 1)))
  (some ([.one (.int .i64 8)], []))
  (goF E (callOf L61) F70 0 m P70_0 (M70_0 t0 (IntKind.wrap .i64 (t3 + 1)))))
  none)
  none))
  none)
  none))
  (goF E (callOf L61) F70 0 m P70_0 (M70_0 t0 (IntKind.wrap .i64 (t3 + 1)))))
  none))
  none)
  none)
  (cond (inB t3 t0.length)
  (cond (decide ((nr (Abs.rowAt t0 (Int.toNat t3)) 1) > 1))
  (cond (t3 == 0)
  (some ([.one (.int .i64 8)], []))
  (cond (inB (IntKind.wrap .i64 (t3 - 1)) t0.length)
  (cond (inB t3 t0.length)
  (cond ((nr (Abs.rowAt t0 (Int.toNat (IntKind.wrap .i64 (t3 - 1)))) 0) != (nr (Abs.rowAt t0 (Int.toNat t3)) 0))
  (some ([.one (.int .i64 8)], []))
  (cond (inB (IntKind.wrap .i64 (t3 - 1)) t0.length)
  (cond (inB t3 t0.length)
  (cond ((nr (Abs.rowAt t0 (Int.toNat (IntKind.wrap .i64 (t3 - 1)))) 1) != (IntKind.wrap .i64 ((nr (Abs.rowAt t0 (Int.toNat t3)) 1) - 1)))
  (some ([.one (.int .i64 8)], []))
  (goF E (callOf L61) F70 0 m P70_0 (M70_0 t0 (IntKind.wrap .i64 (t3 + 1)))))
  none)
  none))
  none)
  none))
  (goF E (callOf L61) F70 0 m P70_0 (M70_0 t0 (IntKind.wrap .i64 (t3 + 1)))))
  none)))
  none)
  none)
  (some ([.one (.int .i64 0)], []))) := by kernel_rfl

noncomputable def P38_0 : List AItem := F38.at [.snd, .snd, .fst, .snd, .sub, .head]

def M38_0 (t0 : List (List Cell)) (t1 : List (List Cell)) (t5 : Int) : St := ⟨[(0, .one (.sl false 93 t0)), (1, .one (.sl false 93 t1)), (5, .one (.int .i64 t5))], []⟩

theorem e38 (m : Nat) (c d : List (List Cell)) : runF E (callOf L70) (m + 1) 38 [.one (.sl false 93 c), .one (.sl false 93 d)] [] =
  (cond ((c.length : Int) != (d.length : Int))
  (some ([.one (.bool false)], []))
  (goF E (callOf L70) F38 0 m P38_0 (M38_0 c d 0))) := by kernel_rfl

theorem e38_0 (m : Nat) (t0 t1 : List (List Cell)) (t5 : Int) : goF E (callOf L70) F38 0 (m + 1) P38_0 (M38_0 t0 t1 t5) =
  (cond (decide (t5 < (t0.length : Int)))
  (cond (inB t5 t0.length)
  (cond (inB t5 t1.length)
  (cond (decide ((nl (Abs.rowAt t0 (Int.toNat t5)) 2).length < 9223372036854775808))
  (cond (!(eqP (nr (Abs.rowAt t0 (Int.toNat t5)) 0) (nr (Abs.rowAt t0 (Int.toNat t5)) 1) (nl (Abs.rowAt t0 (Int.toNat t5)) 2) (nr (Abs.rowAt t1 (Int.toNat t5)) 0) (nr (Abs.rowAt t1 (Int.toNat t5)) 1) (nl (Abs.rowAt t1 (Int.toNat t5)) 2)))
  (some ([.one (.bool false)], []))
  (goF E (callOf L70) F38 0 m P38_0 (M38_0 t0 t1 (IntKind.wrap .i64 (t5 + 1)))))
  none)
  none)
  none)
  (some ([.one (.bool true)], []))) := by kernel_rfl

noncomputable def P78_0 : List AItem := F78.at [.snd, .snd, .snd, .snd, .snd, .fst, .snd, .sub, .head]

def M78_0 (t0 : List (List Cell)) (t6 : Int) (t8 : List (List Cell)) (t24 : Int) (t25 : Int) : St := ⟨[(0, .one (.sl false 5 t0)), (6, .one (.int .i64 t6)), (8, .one (.sl true 93 t8)), (24, .one (.int .u64 t24)), (25, .one (.int .u64 t25))], []⟩

theorem e78 (m : Nat) (x : List (List Cell)) : runF E (callOf L38) (m + 1) 78 [.one (.sl false 5 x)] [] =
  (cond (okRd x)
  (cond ((udec x).2.2 != 0)
  (some ([.one (.sl true 93 ([] : List (List Cell))), .one (.int .i64 0), .one (.int .i64 (udec x).2.2)], []))
  (cond (decide ((udec x).1 > 9))
  (some ([.one (.sl true 93 ([] : List (List Cell))), .one (.int .i64 0), .one (.int .i64 3)], []))
  (goF E (callOf L38) F78 0 m P78_0 (M78_0 x (udec x).2.1 ([] : List (List Cell)) (udec x).1 0))))
  none) := by kernel_rfl

theorem e78_0 (m : Nat) (t0 : List (List Cell)) (t6 : Int) (t8 : List (List Cell)) (t24 t25 : Int) : goF E (callOf L38) F78 0 (m + 1) P78_0 (M78_0 t0 t6 t8 t24 t25) =
  (cond (decide (t25 < t24))
  (cond (inB t6 (t0.length + 1))
  (cond (okRd (dropN t0 (Int.toNat t6)))
  (cond ((decP (dropN t0 (Int.toNat t6))).2.2.2.2 != 0)
  (some ([.one (.sl true 93 ([] : List (List Cell))), .one (.int .i64 0), .one (.int .i64 (decP (dropN t0 (Int.toNat t6))).2.2.2.2)], []))
  (cond (fits (t8.length + [[Cell.int .i64 (decP (dropN t0 (Int.toNat t6))).1, Cell.int .i64 (decP (dropN t0 (Int.toNat t6))).2.1, Cell.slice 89 (decP (dropN t0 (Int.toNat t6))).2.2.1]].length))
  (goF E (callOf L38) F78 0 m P78_0 (M78_0 t0 (IntKind.wrap .i64 (t6 + (decP (dropN t0 (Int.toNat t6))).2.2.2.1)) (t8 ++ [[Cell.int .i64 (decP (dropN t0 (Int.toNat t6))).1, Cell.int .i64 (decP (dropN t0 (Int.toNat t6))).2.1, Cell.slice 89 (decP (dropN t0 (Int.toNat t6))).2.2.1]]) t24 (IntKind.wrap .u64 (t25 + 1))))
  none))
  none)
  none)
  (cond (okRows t8)
  (cond ((vCfg t8) != 0)
  (some ([.one (.sl true 93 ([] : List (List Cell))), .one (.int .i64 0), .one (.int .i64 (vCfg t8))], []))
  (some ([.one (.sl true 93 t8), .one (.int .i64 t6), .one (.int .i64 0)], [])))
  none)) := by kernel_rfl

noncomputable def P86_0 : List AItem := F86.at [.snd, .snd, .snd, .snd, .snd, .fst, .snd, .sub, .head]

def M86_0 (t0 : List (List Cell)) (t5 : Int) (t6 : Int) (t8 : List (List Cell)) (t9 : Int) : St := ⟨[(0, .one (.sl false 5 t0)), (5, .one (.int .u64 t5)), (6, .one (.int .i64 t6)), (8, .one (.sl true 93 t8)), (9, .one (.int .i64 t9))], []⟩

theorem e86 (m : Nat) (x : List (List Cell)) : runF E (callOf L78) (m + 1) 86 [.one (.sl false 5 x)] [] =
  (cond (okRd x)
  (cond ((udec x).2.2 != 0)
  (some ([.one (.sl true 93 ([] : List (List Cell))), .one (.int .i64 0), .one (.int .i64 (udec x).2.2)], []))
  (cond (decide ((udec x).1 > 9))
  (some ([.one (.sl true 93 ([] : List (List Cell))), .one (.int .i64 0), .one (.int .i64 3)], []))
  (goF E (callOf L78) F86 0 m P86_0 (M86_0 x (udec x).1 (udec x).2.1 ([] : List (List Cell)) 0))))
  none) := by kernel_rfl

theorem e86_0 (m : Nat) (t0 : List (List Cell)) (t5 t6 : Int) (t8 : List (List Cell)) (t9 : Int) : goF E (callOf L78) F86 0 (m + 1) P86_0 (M86_0 t0 t5 t6 t8 t9) =
  (cond (decide (t9 < (IntKind.wrap .i64 t5)))
  (cond (inB t6 (t0.length + 1))
  (cond (okRd (dropN t0 (Int.toNat t6)))
  (cond ((decP (dropN t0 (Int.toNat t6))).2.2.2.2 != 0)
  (some ([.one (.sl true 93 ([] : List (List Cell))), .one (.int .i64 0), .one (.int .i64 (decP (dropN t0 (Int.toNat t6))).2.2.2.2)], []))
  (cond (fits (t8.length + [[Cell.int .i64 (decP (dropN t0 (Int.toNat t6))).1, Cell.int .i64 (decP (dropN t0 (Int.toNat t6))).2.1, Cell.slice 89 (decP (dropN t0 (Int.toNat t6))).2.2.1]].length))
  (goF E (callOf L78) F86 0 m P86_0 (M86_0 t0 t5 (IntKind.wrap .i64 (t6 + (decP (dropN t0 (Int.toNat t6))).2.2.2.1)) (t8 ++ [[Cell.int .i64 (decP (dropN t0 (Int.toNat t6))).1, Cell.int .i64 (decP (dropN t0 (Int.toNat t6))).2.1, Cell.slice 89 (decP (dropN t0 (Int.toNat t6))).2.2.1]]) (IntKind.wrap .i64 (t9 + 1))))
  none))
  none)
  none)
  (cond (okRows t8)
  (cond ((vCfg t8) != 0)
  (some ([.one (.sl true 93 ([] : List (List Cell))), .one (.int .i64 0), .one (.int .i64 (vCfg t8))], []))
  (some ([.one (.sl true 93 t8), .one (.int .i64 t6), .one (.int .i64 0)], [])))
  none)) := by kernel_rfl

noncomputable def P40_0 : List AItem := F40.at [.snd, .snd, .fst, .snd, .sub, .head]

def M40_0 (t0 : List (List Cell)) (t1 : List (List Cell)) (t5 : Int) : St := ⟨[(0, .one (.sl false 103 t0)), (1, .one (.sl false 103 t1)), (5, .one (.int .i64 t5))], []⟩

theorem e40 (m : Nat) (v w : List (List Cell)) : runF E (callOf L86) (m + 1) 40 [.one (.sl false 103 v), .one (.sl false 103 w)] [] =
  (cond ((v.length : Int) != (w.length : Int))
  (some ([.one (.bool false)], []))
  (goF E (callOf L86) F40 0 m P40_0 (M40_0 v w 0))) := by kernel_rfl

theorem e40_0 (m : Nat) (t0 t1 : List (List Cell)) (t5 : Int) : goF E (callOf L86) F40 0 (m + 1) P40_0 (M40_0 t0 t1 t5) =
  (cond (decide (t5 < (t0.length : Int)))
  (cond (inB t5 t0.length)
  (cond (inB t5 t1.length)
  (cond (!(((nr (Abs.rowAt t0 (Int.toNat t5)) 0) == (nr (Abs.rowAt t1 (Int.toNat t5)) 0)) && (((nr (Abs.rowAt t0 (Int.toNat t5)) 1) == (nr (Abs.rowAt t1 (Int.toNat t5)) 1)) && true)))
  (some ([.one (.bool false)], []))
  (goF E (callOf L86) F40 0 m P40_0 (M40_0 t0 t1 (IntKind.wrap .i64 (t5 + 1)))))
  none)
  none)
  (some ([.one (.bool true)], []))) := by kernel_rfl

noncomputable def P27_0 : List AItem := F27.at [.snd, .fst, .snd, .sub, .head]

def M27_0 (t0 : List (List Cell)) (t3 : Int) : St := ⟨[(0, .one (.sl false 103 t0)), (3, .one (.int .i64 t3))], []⟩

theorem e27 (m : Nat) (v : List (List Cell)) : runF E (callOf L40) (m + 1) 27 [.one (.sl false 103 v)] [] =
  (goF E (callOf L40) F27 0 m P27_0 (M27_0 v 0)) := by kernel_rfl

theorem e27_0 (m : Nat) (t0 : List (List Cell)) (t3 : Int) : goF E (callOf L40) F27 0 (m + 1) P27_0 (M27_0 t0 t3) =
  (cond (decide (t3 < (t0.length : Int)))
  (cond (inB t3 t0.length)
  (cond (decide ((nr (Abs.rowAt t0 (Int.toNat t3)) 0) < 1))
  (some ([.one (.int .i64 9)], []))
  (cond (inB t3 t0.length)
  (cond (decide ((nr (Abs.rowAt t0 (Int.toNat t3)) 1) < 1))
  (some ([.one (.int .i64 9)], []))
  (cond (inB t3 t0.length)
  (cond (decide ((nr (Abs.rowAt t0 (Int.toNat t3)) 1) > 1000000))
  (some ([.one (.int .i64 9)], []))
  (cond (decide (t3 > 0))
  (cond (inB (IntKind.wrap .i64 (t3 - 1)) t0.length)
  (cond (inB t3 t0.length)
  (cond (decide ((nr (Abs.rowAt t0 (Int.toNat (IntKind.wrap .i64 (t3 - 1)))) 0) ≥ (nr (Abs.rowAt t0 (Int.toNat t3)) 0)))
  (some ([.one (.int .i64 7)], []))
  (goF E (callOf L40) F27 0 m P27_0 (M27_0 t0 (IntKind.wrap .i64 (t3 + 1)))))
  none)
  none)
  (goF E (callOf L40) F27 0 m P27_0 (M27_0 t0 (IntKind.wrap .i64 (t3 + 1))))))
  none))
  none))
  none)
  (some ([.one (.int .i64 0)], []))) := by kernel_rfl

theorem e144 (m : Nat) (k1 s1 w1 v1 rk1 rc1 rf1 k2 s2 w2 v2 rk2 rc2 rf2 : Int) : runF E (callOf L27) (m + 1) 144 [.agg [.int .i64 k1, .int .i64 s1, .int .i64 w1, .int .i64 v1, .int .i64 rk1, .int .i64 rc1, .int .i64 rf1], .agg [.int .i64 k2, .int .i64 s2, .int .i64 w2, .int .i64 v2, .int .i64 rk2, .int .i64 rc2, .int .i64 rf2]] [] =
  (cond (k1 == k2)
  (cond (s1 == s2)
  (cond (w1 == w2)
  (cond (v1 == v2)
  (some ([.one (.bool ((rk1 == rk2) && ((rc1 == rc2) && ((rf1 == rf2) && true))))], []))
  (some ([.one (.bool false)], [])))
  (some ([.one (.bool false)], [])))
  (some ([.one (.bool false)], [])))
  (some ([.one (.bool false)], []))) := by kernel_rfl

noncomputable def P132_0 : List AItem := F132.at [.snd, .snd, .fst, .snd, .sub, .head]

def M132_0 (t29 : List (List Cell)) (t30 : Int) (t31 : Int) (b0 : Int) (b0_1 : Int) (b0_2 : List (List Cell)) : St := ⟨[(3, .one (.ptr 0 0)), (29, .one (.sl false 89 t29)), (30, .one (.int .i64 t30)), (31, .one (.int .i64 t31))], [.var [.int .i64 b0, .int .i64 b0_1, .sl false 89 b0_2]]⟩

theorem e132 (m : Nat) (ap np : Int) (cp : List (List Cell)) (aq nq : Int) (cq : List (List Cell)) : runF E (callOf L144) (m + 1) 132 [.agg [.int .i64 ap, .int .i64 np, .sl false 89 cp], .agg [.int .i64 aq, .int .i64 nq, .sl false 89 cq]] [] =
  (cond (ap != aq)
  (some ([.one (.bool false)], []))
  (cond (np != nq)
  (some ([.one (.bool false)], []))
  (cond ((cp.length : Int) != (cq.length : Int))
  (some ([.one (.bool false)], []))
  (goF E (callOf L144) F132 0 m P132_0 (M132_0 cp (cp.length : Int) 0 aq nq cq))))) := by kernel_rfl

theorem e132_0 (m : Nat) (t29 : List (List Cell)) (t30 t31 b0 b0_1 : Int) (b0_2 : List (List Cell)) : goF E (callOf L144) F132 0 (m + 1) P132_0 (M132_0 t29 t30 t31 b0 b0_1 b0_2) =
  (cond (decide (t31 < t30))
  (cond (inB t31 t29.length)
  (cond (inB t31 b0_2.length)
  (cond (!(eqCh (nr (Abs.rowAt t29 (Int.toNat t31)) 0) (nr (Abs.rowAt t29 (Int.toNat t31)) 1) (nr (Abs.rowAt t29 (Int.toNat t31)) 2) (nr (Abs.rowAt t29 (Int.toNat t31)) 3) (nr (Abs.rowAt t29 (Int.toNat t31)) 4) (nr (Abs.rowAt t29 (Int.toNat t31)) 5) (nr (Abs.rowAt t29 (Int.toNat t31)) 6) (nr (Abs.rowAt b0_2 (Int.toNat t31)) 0) (nr (Abs.rowAt b0_2 (Int.toNat t31)) 1) (nr (Abs.rowAt b0_2 (Int.toNat t31)) 2) (nr (Abs.rowAt b0_2 (Int.toNat t31)) 3) (nr (Abs.rowAt b0_2 (Int.toNat t31)) 4) (nr (Abs.rowAt b0_2 (Int.toNat t31)) 5) (nr (Abs.rowAt b0_2 (Int.toNat t31)) 6)))
  (some ([.one (.bool false)], []))
  (goF E (callOf L144) F132 0 m P132_0 (M132_0 t29 t30 (IntKind.wrap .i64 (t31 + 1)) b0 b0_1 b0_2)))
  none)
  none)
  (some ([.one (.bool true)], []))) := by kernel_rfl

theorem e131 (m : Nat) (aq nq : Int) (cq : List (List Cell)) (a n : Int) (l : List (List Cell)) : runF E (callOf L132) (m + 1) 131 [.agg [.int .i64 aq, .int .i64 nq, .sl false 89 cq], .one (.ptr 0 0)] [.var [.int .i64 a, .int .i64 n, .sl false 89 l]] =
  (cond (decide (l.length < 9223372036854775808))
  (some ([.one (.bool (eqP a n l aq nq cq))], [.var [.int .i64 a, .int .i64 n, .sl false 89 l]]))
  none) := by kernel_rfl

noncomputable def P143_0 : List AItem := F143.at [.snd, .fst, .snd, .sub, .head]

def M143_0 (t0 : List (List Cell)) (t7 : Int) (t8 : Int) (b0 : Int) (b0_1 : Int) (b0_2 : List (List Cell)) : St := ⟨[(0, .one (.sl false 93 t0)), (1, .one (.fn 131 [.ptr 0 0])), (7, .one (.int .i64 t7)), (8, .one (.int .i64 t8))], [.var [.int .i64 b0, .int .i64 b0_1, .sl false 89 b0_2]]⟩

theorem e143 (m : Nat) (c : List (List Cell)) (a n : Int) (l : List (List Cell)) : runF E (callOf L131) (m + 1) 143 [.one (.sl false 93 c), .one (.fn 131 [.ptr 0 0])] [.var [.int .i64 a, .int .i64 n, .sl false 89 l]] =
  (goF E (callOf L131) F143 1 m P143_0 (M143_0 c (c.length : Int) 0 a n l)) := by kernel_rfl

theorem e143_0 (m : Nat) (t0 : List (List Cell)) (t7 t8 b0 b0_1 : Int) (b0_2 : List (List Cell)) : goF E (callOf L131) F143 1 (m + 1) P143_0 (M143_0 t0 t7 t8 b0 b0_1 b0_2) =
  (cond (decide (t8 < t7))
  (cond (inB t8 t0.length)
  (cond (decide (b0_2.length < 9223372036854775808))
  (cond (eqP b0 b0_1 b0_2 (nr (Abs.rowAt t0 (Int.toNat t8)) 0) (nr (Abs.rowAt t0 (Int.toNat t8)) 1) (nl (Abs.rowAt t0 (Int.toNat t8)) 2))
  (some ([.one (.int .i64 t8)], [.var [.int .i64 b0, .int .i64 b0_1, .sl false 89 b0_2]]))
  (goF E (callOf L131) F143 1 m P143_0 (M143_0 t0 t7 (IntKind.wrap .i64 (t8 + 1)) b0 b0_1 b0_2)))
  none)
  none)
  (some ([.one (.int .i64 (-1))], [.var [.int .i64 b0, .int .i64 b0_1, .sl false 89 b0_2]]))) := by kernel_rfl

theorem e130 (m : Nat) (c : List (List Cell)) (a n : Int) (l : List (List Cell)) : runF E (callOf L143) (m + 1) 130 [.one (.sl false 93 c), .one (.fn 131 [.ptr 0 0])] [.var [.int .i64 a, .int .i64 n, .sl false 89 l]] =
  (cond (okRows c && decide (l.length < 9223372036854775808))
  (some ([.one (.bool (decide ((idxP a n l c) ≥ 0)))], [.var [.int .i64 a, .int .i64 n, .sl false 89 l]]))
  none) := by kernel_rfl

noncomputable def P111_0 : List AItem := F111.at [.snd, .fst, .snd, .sub, .head]

def M111_0 (t0 : List (List Cell)) (t7 : List (List Cell)) (t8 : Int) (t9 : Int) : St := ⟨[(0, .one (.sl false 93 t0)), (7, .one (.sl false 93 t7)), (8, .one (.int .i64 t8)), (9, .one (.int .i64 t9))], []⟩

theorem e111 (m : Nat) (c d : List (List Cell)) : runF E (callOf L130) (m + 1) 111 [.one (.sl false 93 c), .one (.sl false 93 d)] [] =
  (goF E (callOf L130) F111 0 m P111_0 (M111_0 c d (d.length : Int) 0)) := by kernel_rfl

theorem e111_0 (m : Nat) (t0 t7 : List (List Cell)) (t8 t9 : Int) : goF E (callOf L130) F111 0 (m + 1) P111_0 (M111_0 t0 t7 t8 t9) =
  (cond (decide (t9 < t8))
  (cond (inB t9 t7.length)
  (cond (okRows t0 && decide ((nl (Abs.rowAt t7 (Int.toNat t9)) 2).length < 9223372036854775808))
  (cond (!(inP (nr (Abs.rowAt t7 (Int.toNat t9)) 0) (nr (Abs.rowAt t7 (Int.toNat t9)) 1) (nl (Abs.rowAt t7 (Int.toNat t9)) 2) t0))
  (some ([.one (.bool false)], []))
  (goF E (callOf L130) F111 0 m P111_0 (M111_0 t0 t7 t8 (IntKind.wrap .i64 (t9 + 1)))))
  none)
  none)
  (some ([.one (.bool true)], []))) := by kernel_rfl

end Go.Proofs.YtejimgikldiajaaGreat

namespace Go.Proofs.YtejimgikldiajaaGreat

open Go.Abs

set_option maxRecDepth 20000

noncomputable def P72_0 : List AItem := F72.at [.snd, .fst, .snd, .sub, .head]

def M72_0 (t0 : List (List Cell)) (t1 : List (List Cell)) (t5 : Int) : St := ⟨[(0, .one (.sl false 93 t0)), (1, .one (.sl false 93 t1)), (5, .one (.int .i64 t5))], []⟩

noncomputable def P72_1 : List AItem := F72.at [.snd, .fst, .snd, .sub, .body, .snd, .fst, .sub, .snd, .fst, .snd, .sub, .head]

def M72_1 (t0 : List (List Cell)) (t1 : List (List Cell)) (t5 : Int) (t6 : Bool) (t7 : Int) : St := ⟨[(0, .one (.sl false 93 t0)), (1, .one (.sl false 93 t1)), (5, .one (.int .i64 t5)), (6, .one (.bool t6)), (7, .one (.int .i64 t7))], []⟩

theorem e72 (m : Nat) (c d : List (List Cell)) : runF E (callOf L111) (m + 1) 72 [.one (.sl false 93 c), .one (.sl false 93 d)] [] =
  (goF E (callOf L111) F72 0 m P72_0 (M72_0 c d 0)) := by kernel_rfl

theorem e72_0 (m : Nat) (t0 t1 : List (List Cell)) (t5 : Int) : goF E (callOf L111) F72 0 (m + 1) P72_0 (M72_0 t0 t1 t5) =
  (cond (decide (t5 < (t1.length : Int)))
  (goF E (callOf L111) F72 0 m P72_1 (M72_1 t0 t1 t5 false 0))
  (some ([.one (.bool true)], []))) := by kernel_rfl

theorem e72_1 (m : Nat) (t0 t1 : List (List Cell)) (t5 : Int) (t6 : Bool) (t7 : Int) : goF E (callOf L111) F72 0 (m + 1) P72_1 (M72_1 t0 t1 t5 t6 t7) =
  (cond (decide (t7 < (t0.length : Int)))
  (cond t6
  (goF E (callOf L111) F72 0 m P72_1 (M72_1 t0 t1 t5 true (IntKind.wrap .i64 (t7 + 1))))
  (cond (inB t7 t0.length)
  (cond (inB t5 t1.length)
  (cond (decide ((nl (Abs.rowAt t0 (Int.toNat t7)) 2).length < 9223372036854775808))
  (goF E (callOf L111) F72 0 m P72_1 (M72_1 t0 t1 t5 (eqP (nr (Abs.rowAt t0 (Int.toNat t7)) 0) (nr (Abs.rowAt t0 (Int.toNat t7)) 1) (nl (Abs.rowAt t0 (Int.toNat t7)) 2) (nr (Abs.rowAt t1 (Int.toNat t5)) 0) (nr (Abs.rowAt t1 (Int.toNat t5)) 1) (nl (Abs.rowAt t1 (Int.toNat t5)) 2)) (IntKind.wrap .i64 (t7 + 1))))
  none)
  none)
  none))
  (cond (!t6)
  (some ([.one (.bool false)], []))
  (goF E (callOf L111) F72 0 m P72_0 (M72_0 t0 t1 (IntKind.wrap .i64 (t5 + 1)))))) := by kernel_rfl

noncomputable def P63_0 : List AItem := F63.at [.snd, .fst, .snd, .sub, .head]

def M63_0 (t10 : List (List Cell)) (t11 : Int) (t12 : Int) (b0 : List (List Cell)) (b0_1 : List (List Cell)) : St := ⟨[(1, .one (.ptr 0 0)), (10, .one (.sl false 25 t10)), (11, .one (.int .i64 t11)), (12, .one (.int .i64 t12))], [.var [.sl false 93 b0, .sl false 93 b0_1]]⟩

theorem e63 (m : Nat) (f1 t1 : List (List Cell)) : runF E (callOf L72) (m + 1) 63 [.agg [.sl false 93 f1, .sl false 93 t1]] [] =
  (goF E (callOf L72) F63 0 m P63_0 (M63_0 [[Cell.slice 93 f1], [Cell.slice 93 t1]] 2 0 f1 t1)) := by kernel_rfl

theorem e63_0 (m : Nat) (t10 : List (List Cell)) (t11 t12 : Int) (b0 b0_1 : List (List Cell)) : goF E (callOf L72) F63 0 (m + 1) P63_0 (M63_0 t10 t11 t12 b0 b0_1) =
  (cond (decide (t12 < t11))
  (cond (inB t12 t10.length)
  (cond (okRows (nl (Abs.rowAt t10 (Int.toNat t12)) 0))
  (cond ((vCfg (nl (Abs.rowAt t10 (Int.toNat t12)) 0)) != 0)
  (some ([.one (.int .i64 (vCfg (nl (Abs.rowAt t10 (Int.toNat t12)) 0)))], []))
  (goF E (callOf L72) F63 0 m P63_0 (M63_0 t10 t11 (IntKind.wrap .i64 (t12 + 1)) b0 b0_1)))
  none)
  none)
  (cond (okRows b0_1 && okRows b0)
  (cond (!(incl b0_1 b0))
  (some ([.one (.int .i64 2)], []))
  (some ([.one (.int .i64 0)], [])))
  none)) := by kernel_rfl

theorem e26 (m : Nat) (f1 t1 : List (List Cell)) : runF E (callOf L63) (m + 1) 26 [.agg [.sl false 93 f1, .sl false 93 t1]] [] =
  (cond (okRows f1)
  (cond ((vCfg f1) != 0)
  (cond (okRows f1)
  (some ([.one (.int .i64 (vCfg f1))], []))
  none)
  (cond (okRows t1)
  (cond ((vCfg t1) != 0)
  (cond (okRows t1)
  (some ([.one (.int .i64 (vCfg t1))], []))
  none)
  (cond (okRows t1 && okRows f1)
  (cond (!(incl t1 f1))
  (some ([.one (.int .i64 2)], []))
  (some ([.one (.int .i64 0)], [])))
  none))
  none))
  none) := by kernel_rfl

theorem e37 (m : Nat) (f1 t1 f2 t2 : List (List Cell)) : runF E (callOf L26) (m + 1) 37 [.agg [.sl false 93 f1, .sl false 93 t1], .agg [.sl false 93 f2, .sl false 93 t2]] [] =
  (cond (okRows f1)
  (cond (eqCfg f1 f2)
  (cond (okRows t1)
  (some ([.one (.bool (eqCfg t1 t2))], []))
  none)
  (some ([.one (.bool false)], [])))
  none) := by kernel_rfl

theorem e81 (m : Nat) (x : List (List Cell)) : runF E (callOf L37) (m + 1) 81 [.one (.sl false 5 x)] [] =
  (cond (inB 0 (x.length + 1))
  (cond (okRd (dropN x 0))
  (cond ((decC (dropN x 0)).2.2 != 0)
  (some ([.agg [.sl true 93 ([] : List (List Cell)), .sl true 93 ([] : List (List Cell))], .one (.int .i64 0), .one (.int .i64 (decC (dropN x 0)).2.2)], []))
  (cond (inB (IntKind.wrap .i64 (0 + (decC (dropN x 0)).2.1)) (x.length + 1))
  (cond (okRd (dropN x (Int.toNat (IntKind.wrap .i64 (0 + (decC (dropN x 0)).2.1)))))
  (cond ((decC (dropN x (Int.toNat (IntKind.wrap .i64 (0 + (decC (dropN x 0)).2.1))))).2.2 != 0)
  (some ([.agg [.sl true 93 ([] : List (List Cell)), .sl true 93 ([] : List (List Cell))], .one (.int .i64 0), .one (.int .i64 (decC (dropN x (Int.toNat (IntKind.wrap .i64 (0 + (decC (dropN x 0)).2.1))))).2.2)], []))
  (cond (okRows (decC (dropN x 0)).1 && okRows (decC (dropN x (Int.toNat (IntKind.wrap .i64 (0 + (decC (dropN x 0)).2.1))))).1)
  (cond ((vCert (decC (dropN x 0)).1 (decC (dropN x (Int.toNat (IntKind.wrap .i64 (0 + (decC (dropN x 0)).2.1))))).1) != 0)
  (some ([.agg [.sl true 93 ([] : List (List Cell)), .sl true 93 ([] : List (List Cell))], .one (.int .i64 0), .one (.int .i64 (vCert (decC (dropN x 0)).1 (decC (dropN x (Int.toNat (IntKind.wrap .i64 (0 + (decC (dropN x 0)).2.1))))).1))], []))
  (some ([.agg [.sl true 93 (decC (dropN x 0)).1, .sl true 93 (decC (dropN x (Int.toNat (IntKind.wrap .i64 (0 + (decC (dropN x 0)).2.1))))).1], .one (.int .i64 (IntKind.wrap .i64 ((IntKind.wrap .i64 (0 + (decC (dropN x 0)).2.1)) + (decC (dropN x (Int.toNat (IntKind.wrap .i64 (0 + (decC (dropN x 0)).2.1))))).2.1))), .one (.int .i64 0)], [])))
  none))
  none)
  none))
  none)
  none) := by kernel_rfl

theorem e89 (m : Nat) (x : List (List Cell)) : runF E (callOf L81) (m + 1) 89 [.one (.sl false 5 x)] [] =
  (cond (okRd x)
  (cond ((decC x).2.2 != 0)
  (some ([.agg [.sl false 93 ([] : List (List Cell)), .sl false 93 ([] : List (List Cell))], .one (.int .i64 0), .one (.int .i64 (decC x).2.2)], []))
  (cond (inB (decC x).2.1 (x.length + 1))
  (cond (okRd (dropN x (Int.toNat (decC x).2.1)))
  (cond ((decC (dropN x (Int.toNat (decC x).2.1))).2.2 != 0)
  (some ([.agg [.sl false 93 ([] : List (List Cell)), .sl false 93 ([] : List (List Cell))], .one (.int .i64 0), .one (.int .i64 (decC (dropN x (Int.toNat (decC x).2.1))).2.2)], []))
  (cond (okRows (decC x).1 && okRows (decC (dropN x (Int.toNat (decC x).2.1))).1)
  (cond ((vCert (decC x).1 (decC (dropN x (Int.toNat (decC x).2.1))).1) != 0)
  (some ([.agg [.sl false 93 ([] : List (List Cell)), .sl false 93 ([] : List (List Cell))], .one (.int .i64 0), .one (.int .i64 (vCert (decC x).1 (decC (dropN x (Int.toNat (decC x).2.1))).1))], []))
  (some ([.agg [.sl false 93 (decC x).1, .sl false 93 (decC (dropN x (Int.toNat (decC x).2.1))).1], .one (.int .i64 (IntKind.wrap .i64 ((decC x).2.1 + (decC (dropN x (Int.toNat (decC x).2.1))).2.1))), .one (.int .i64 0)], [])))
  none))
  none)
  none))
  none) := by kernel_rfl

theorem e66 (m : Nat) (n : Int) : runF E (callOf L89) (m + 1) 66 [.one (.int .i64 n)] [] =
  (cond (decide (n ≥ 101))
  (some ([.one (.bool (decide (n < 107)))], []))
  (some ([.one (.bool false)], []))) := by kernel_rfl

theorem e141 (m : Nat) (k1 : Int) (o1 f1 : List UInt8) (n1 : Int) (s1 : List UInt8) : runF E (callOf L151) (m + 1) 141 [.agg [.int .i64 k1, .str o1, .str f1, .int .i64 n1, .str s1]] [] =
  (cond (decide (k1 < 1))
  (some ([.one (.int .i64 10)], []))
  (cond (decide (k1 > 5))
  (some ([.one (.int .i64 10)], []))
  (cond (o1.isEmpty)
  (some ([.one (.int .i64 2)], []))
  (cond (f1.isEmpty)
  (some ([.one (.int .i64 2)], []))
  (cond (decide ((o1.length : Int) > 16))
  (some ([.one (.int .i64 3)], []))
  (cond (decide ((f1.length : Int) > 16))
  (some ([.one (.int .i64 3)], []))
  (cond (decide ((s1.length : Int) > 32))
  (some ([.one (.int .i64 3)], []))
  (cond (k1 == 3)
  (cond (decide (n1 < (-1000000)))
  (some ([.one (.int .i64 9)], []))
  (cond (decide (n1 > 1000000))
  (some ([.one (.int .i64 9)], []))
  (cond (!(s1 == ([] : List UInt8)))
  (cond (k1 != 1)
  (cond (k1 != 4)
  (some ([.one (.int .i64 2)], []))
  (some ([.one (.int .i64 0)], [])))
  (some ([.one (.int .i64 0)], [])))
  (some ([.one (.int .i64 0)], [])))))
  (cond (k1 == 4)
  (cond (k1 == 4)
  (cond (n1 != 0)
  (some ([.one (.int .i64 9)], []))
  (cond (!(s1 == ([] : List UInt8)))
  (cond (k1 != 1)
  (cond (k1 != 4)
  (some ([.one (.int .i64 2)], []))
  (some ([.one (.int .i64 0)], [])))
  (some ([.one (.int .i64 0)], [])))
  (some ([.one (.int .i64 0)], []))))
  (cond (!(s1 == ([] : List UInt8)))
  (cond (k1 != 1)
  (cond (k1 != 4)
  (some ([.one (.int .i64 2)], []))
  (some ([.one (.int .i64 0)], [])))
  (some ([.one (.int .i64 0)], [])))
  (some ([.one (.int .i64 0)], []))))
  (cond (k1 == 5)
  (cond (n1 != 0)
  (some ([.one (.int .i64 9)], []))
  (cond (!(s1 == ([] : List UInt8)))
  (cond (k1 != 1)
  (cond (k1 != 4)
  (some ([.one (.int .i64 2)], []))
  (some ([.one (.int .i64 0)], [])))
  (some ([.one (.int .i64 0)], [])))
  (some ([.one (.int .i64 0)], []))))
  (cond (!(s1 == ([] : List UInt8)))
  (cond (k1 != 1)
  (cond (k1 != 4)
  (some ([.one (.int .i64 2)], []))
  (some ([.one (.int .i64 0)], [])))
  (some ([.one (.int .i64 0)], [])))
  (some ([.one (.int .i64 0)], []))))))))))))) := by kernel_rfl

theorem e114 (m : Nat) (k1 : Int) (o1 f1 : List UInt8) (n1 : Int) (s1 : List UInt8) : runF E (callOf L141) (m + 1) 114 [.agg [.int .i64 k1, .str o1, .str f1, .int .i64 n1, .str s1]] [] =
  (cond (decide (k1 < 1))
  (some ([.one (.int .i64 10)], []))
  (cond (decide (k1 > 5))
  (some ([.one (.int .i64 10)], []))
  (cond (o1 == ([] : List UInt8))
  (some ([.one (.int .i64 2)], []))
  (cond (f1 == ([] : List UInt8))
  (some ([.one (.int .i64 2)], []))
  (cond (decide ((o1.length : Int) > 16))
  (some ([.one (.int .i64 3)], []))
  (cond (decide ((f1.length : Int) > 16))
  (some ([.one (.int .i64 3)], []))
  (cond (decide ((s1.length : Int) > 32))
  (some ([.one (.int .i64 3)], []))
  (cond (k1 == 3)
  (cond (decide (n1 < (-1000000)))
  (some ([.one (.int .i64 9)], []))
  (cond (decide (n1 > 1000000))
  (some ([.one (.int .i64 9)], []))
  (cond (k1 == 4)
  (cond (n1 != 0)
  (some ([.one (.int .i64 9)], []))
  (cond (k1 == 2)
  (cond (!(s1 == ([] : List UInt8)))
  (some ([.one (.int .i64 2)], []))
  (some ([.one (.int .i64 0)], [])))
  (cond (k1 == 3)
  (cond (!(s1 == ([] : List UInt8)))
  (some ([.one (.int .i64 2)], []))
  (some ([.one (.int .i64 0)], [])))
  (cond (k1 == 5)
  (cond (!(s1 == ([] : List UInt8)))
  (some ([.one (.int .i64 2)], []))
  (some ([.one (.int .i64 0)], [])))
  (some ([.one (.int .i64 0)], []))))))
  (cond (k1 == 5)
  (cond (n1 != 0)
  (some ([.one (.int .i64 9)], []))
  (cond (k1 == 2)
  (cond (!(s1 == ([] : List UInt8)))
  (some ([.one (.int .i64 2)], []))
  (some ([.one (.int .i64 0)], [])))
  (cond (k1 == 3)
  (cond (!(s1 == ([] : List UInt8)))
  (some ([.one (.int .i64 2)], []))
  (some ([.one (.int .i64 0)], [])))
  (cond (k1 == 5)
  (cond (!(s1 == ([] : List UInt8)))
  (some ([.one (.int .i64 2)], []))
  (some ([.one (.int .i64 0)], [])))
  (some ([.one (.int .i64 0)], []))))))
  (cond (k1 == 2)
  (cond (!(s1 == ([] : List UInt8)))
  (some ([.one (.int .i64 2)], []))
  (some ([.one (.int .i64 0)], [])))
  (cond (k1 == 3)
  (cond (!(s1 == ([] : List UInt8)))
  (some ([.one (.int .i64 2)], []))
  (some ([.one (.int .i64 0)], [])))
  (cond (k1 == 5)
  (cond (!(s1 == ([] : List UInt8)))
  (some ([.one (.int .i64 2)], []))
  (some ([.one (.int .i64 0)], [])))
  (some ([.one (.int .i64 0)], [])))))))))
  (cond (k1 == 4)
  (cond (n1 != 0)
  (some ([.one (.int .i64 9)], []))
  (cond (k1 == 2)
  (cond (!(s1 == ([] : List UInt8)))
  (some ([.one (.int .i64 2)], []))
  (some ([.one (.int .i64 0)], [])))
  (cond (k1 == 3)
  (cond (!(s1 == ([] : List UInt8)))
  (some ([.one (.int .i64 2)], []))
  (some ([.one (.int .i64 0)], [])))
  (cond (k1 == 5)
  (cond (!(s1 == ([] : List UInt8)))
  (some ([.one (.int .i64 2)], []))
  (some ([.one (.int .i64 0)], [])))
  (some ([.one (.int .i64 0)], []))))))
  (cond (k1 == 5)
  (cond (n1 != 0)
  (some ([.one (.int .i64 9)], []))
  (cond (k1 == 2)
  (cond (!(s1 == ([] : List UInt8)))
  (some ([.one (.int .i64 2)], []))
  (some ([.one (.int .i64 0)], [])))
  (cond (k1 == 3)
  (cond (!(s1 == ([] : List UInt8)))
  (some ([.one (.int .i64 2)], []))
  (some ([.one (.int .i64 0)], [])))
  (cond (k1 == 5)
  (cond (!(s1 == ([] : List UInt8)))
  (some ([.one (.int .i64 2)], []))
  (some ([.one (.int .i64 0)], [])))
  (some ([.one (.int .i64 0)], []))))))
  (cond (k1 == 2)
  (cond (!(s1 == ([] : List UInt8)))
  (some ([.one (.int .i64 2)], []))
  (some ([.one (.int .i64 0)], [])))
  (cond (k1 == 3)
  (cond (!(s1 == ([] : List UInt8)))
  (some ([.one (.int .i64 2)], []))
  (some ([.one (.int .i64 0)], [])))
  (cond (k1 == 5)
  (cond (!(s1 == ([] : List UInt8)))
  (some ([.one (.int .i64 2)], []))
  (some ([.one (.int .i64 0)], [])))
  (some ([.one (.int .i64 0)], []))))))))))))))) := by kernel_rfl

theorem e153 (m : Nat) (k1 : Int) (o1 f1 : List UInt8) (n1 : Int) (s1 : List UInt8) : runF E (callOf L114) (m + 1) 153 [.agg [.int .i64 k1, .str o1, .str f1, .int .i64 n1, .str s1]] [] =
  (some ([.one (.bool (k1 == 1))], [])) := by kernel_rfl

noncomputable def P156_0 : List AItem := F156.at [.snd, .fst, .snd, .sub, .head]

def M156_0 (t0 : List (List Cell)) (t7 : Int) (t8 : Int) : St := ⟨[(0, .one (.sl false 136 t0)), (1, .one (.fn 153 [])), (7, .one (.int .i64 t7)), (8, .one (.int .i64 t8))], []⟩

theorem e156 (m : Nat) (l : List (List Cell)) : runF E (callOf L153) (m + 1) 156 [.one (.sl false 136 l), .one (.fn 153 [])] [] =
  (goF E (callOf L153) F156 0 m P156_0 (M156_0 l (l.length : Int) 0)) := by kernel_rfl

theorem e156_0 (m : Nat) (t0 : List (List Cell)) (t7 t8 : Int) : goF E (callOf L153) F156 0 (m + 1) P156_0 (M156_0 t0 t7 t8) =
  (cond (decide (t8 < t7))
  (cond (inB t8 t0.length)
  (cond ((nr (Abs.rowAt t0 (Int.toNat t8)) 0) == 1)
  (some ([.one (.int .i64 t8)], []))
  (goF E (callOf L153) F156 0 m P156_0 (M156_0 t0 t7 (IntKind.wrap .i64 (t8 + 1)))))
  none)
  (some ([.one (.int .i64 (-1))], []))) := by kernel_rfl

theorem e152 (m : Nat) (l : List (List Cell)) : runF E (callOf L156) (m + 1) 152 [.one (.sl false 136 l), .one (.fn 153 [])] [] =
  (cond (decide (l.length < 9223372036854775808))
  (some ([.one (.bool (decide ((idxW l) ≥ 0)))], []))
  none) := by kernel_rfl

theorem e142 (m : Nat) (cu qu tu : Int) (eu : List (List Cell)) : runF E (callOf L152) (m + 1) 142 [.agg [.int .i64 cu, .int .i64 qu, .int .i64 tu, .sl false 136 eu]] [] =
  (cond (decide (eu.length < 9223372036854775808))
  (some ([.one (.bool (!(!(comm eu))))], []))
  none) := by kernel_rfl

noncomputable def P115_0 : List AItem := F115.at [.snd, .fst, .snd, .sub, .head]

def M115_0 (t3 : Int) (b0 : Int) (b0_1 : Int) (b0_2 : Int) (b0_3 : List (List Cell)) : St := ⟨[(1, .one (.ptr 0 0)), (3, .one (.int .i64 t3))], [.var [.int .i64 b0, .int .i64 b0_1, .int .i64 b0_2, .sl false 136 b0_3]]⟩

theorem e115 (m : Nat) (cu qu tu : Int) (eu : List (List Cell)) : runF E (callOf L142) (m + 1) 115 [.agg [.int .i64 cu, .int .i64 qu, .int .i64 tu, .sl false 136 eu]] [] =
  (goF E (callOf L142) F115 0 m P115_0 (M115_0 0 cu qu tu eu)) := by kernel_rfl

theorem e115_0 (m : Nat) (t3 b0 b0_1 b0_2 : Int) (b0_3 : List (List Cell)) : goF E (callOf L142) F115 0 (m + 1) P115_0 (M115_0 t3 b0 b0_1 b0_2 b0_3) =
  (cond (decide (t3 < (b0_3.length : Int)))
  (cond (inB t3 b0_3.length)
  (cond ((nr (Abs.rowAt b0_3 (Int.toNat t3)) 0) == 1)
  (some ([.one (.bool false)], []))
  (goF E (callOf L142) F115 0 m P115_0 (M115_0 (IntKind.wrap .i64 (t3 + 1)) b0 b0_1 b0_2 b0_3)))
  none)
  (some ([.one (.bool true)], []))) := by kernel_rfl

noncomputable def P128_0 : List AItem := F128.at [.snd, .snd, .fst, .snd, .sub, .head]

def M128_0 (t46 : List (List Cell)) (t47 : Int) (t48 : Int) (b0 : Int) (b0_1 : Int) (b0_2 : Int) (b0_3 : List (List Cell)) : St := ⟨[(1, .one (.ptr 0 0)), (46, .one (.sl false 136 t46)), (47, .one (.int .i64 t47)), (48, .one (.int .i64 t48))], [.var [.int .i64 b0, .int .i64 b0_1, .int .i64 b0_2, .sl false 136 b0_3]]⟩

theorem e128 (m : Nat) (cu qu tu : Int) (eu : List (List Cell)) : runF E (callOf L115) (m + 1) 128 [.agg [.int .i64 cu, .int .i64 qu, .int .i64 tu, .sl false 136 eu]] [] =
  (cond (decide (cu < 101))
  (some ([.one (.int .i64 9)], []))
  (cond (decide (cu ≥ 107))
  (some ([.one (.int .i64 9)], []))
  (cond (decide (qu < 1))
  (some ([.one (.int .i64 9)], []))
  (cond (decide (qu > 8))
  (some ([.one (.int .i64 9)], []))
  (cond (decide (tu < 0))
  (some ([.one (.int .i64 9)], []))
  (cond (decide (tu > 1000))
  (some ([.one (.int .i64 9)], []))
  (cond ((eu.length : Int) == 0)
  (some ([.one (.int .i64 2)], []))
  (cond (decide ((eu.length : Int) > 4))
  (some ([.one (.int .i64 3)], []))
  (goF E (callOf L115) F128 0 m P128_0 (M128_0 eu (eu.length : Int) 0 cu qu tu eu)))))))))) := by kernel_rfl

theorem e128_0 (m : Nat) (t46 : List (List Cell)) (t47 t48 b0 b0_1 b0_2 : Int) (b0_3 : List (List Cell)) : goF E (callOf L115) F128 0 (m + 1) P128_0 (M128_0 t46 t47 t48 b0 b0_1 b0_2 b0_3) =
  (cond (decide (t48 < t47))
  (cond (inB t48 t46.length)
  (cond ((vEff (nr (Abs.rowAt t46 (Int.toNat t48)) 0) (ns (Abs.rowAt t46 (Int.toNat t48)) 1) (ns (Abs.rowAt t46 (Int.toNat t48)) 2) (nr (Abs.rowAt t46 (Int.toNat t48)) 3) (ns (Abs.rowAt t46 (Int.toNat t48)) 4)) != 0)
  (some ([.one (.int .i64 (vEff (nr (Abs.rowAt t46 (Int.toNat t48)) 0) (ns (Abs.rowAt t46 (Int.toNat t48)) 1) (ns (Abs.rowAt t46 (Int.toNat t48)) 2) (nr (Abs.rowAt t46 (Int.toNat t48)) 3) (ns (Abs.rowAt t46 (Int.toNat t48)) 4)))], []))
  (goF E (callOf L115) F128 0 m P128_0 (M128_0 t46 t47 (IntKind.wrap .i64 (t48 + 1)) b0 b0_1 b0_2 b0_3)))
  none)
  (cond (decide (b0_3.length < 9223372036854775808))
  (cond (comm b0_3)
  (cond (b0_2 != 0)
  (some ([.one (.int .i64 2)], []))
  (cond (!(comm b0_3))
  (cond (decide ((b0_3.length : Int) > 1))
  (some ([.one (.int .i64 2)], []))
  (some ([.one (.int .i64 0)], [])))
  (some ([.one (.int .i64 0)], []))))
  (cond (!(comm b0_3))
  (cond (decide ((b0_3.length : Int) > 1))
  (some ([.one (.int .i64 2)], []))
  (some ([.one (.int .i64 0)], [])))
  (some ([.one (.int .i64 0)], []))))
  none)) := by kernel_rfl

noncomputable def P73_0 : List AItem := F73.at [.snd, .snd, .fst, .snd, .sub, .head]

def M73_0 (t3 : Int) (b0 : Int) (b0_1 : Int) (b0_2 : Int) (b0_3 : List (List Cell)) : St := ⟨[(1, .one (.ptr 0 0)), (3, .one (.int .i64 t3))], [.var [.int .i64 b0, .int .i64 b0_1, .int .i64 b0_2, .sl false 136 b0_3]]⟩

theorem e73 (m : Nat) (cu qu tu : Int) (eu : List (List Cell)) : runF E (callOf L128) (m + 1) 73 [.agg [.int .i64 cu, .int .i64 qu, .int .i64 tu, .sl false 136 eu]] [] =
  (cond (!(isClient cu))
  (some ([.one (.int .i64 9)], []))
  (cond (decide (qu < 1))
  (some ([.one (.int .i64 9)], []))
  (cond (decide (qu > 8))
  (some ([.one (.int .i64 9)], []))
  (cond (decide (tu < 0))
  (some ([.one (.int .i64 9)], []))
  (cond (decide (tu > 1000))
  (some ([.one (.int .i64 9)], []))
  (cond ((eu.length : Int) == 0)
  (some ([.one (.int .i64 2)], []))
  (cond (decide ((eu.length : Int) > 4))
  (some ([.one (.int .i64 3)], []))
  (goF E (callOf L128) F73 0 m P73_0 (M73_0 0 cu qu tu eu))))))))) := by kernel_rfl

theorem e73_0 (m : Nat) (t3 b0 b0_1 b0_2 : Int) (b0_3 : List (List Cell)) : goF E (callOf L128) F73 0 (m + 1) P73_0 (M73_0 t3 b0 b0_1 b0_2 b0_3) =
  (cond (decide (t3 < (b0_3.length : Int)))
  (cond (inB t3 b0_3.length)
  (cond ((vEff (nr (Abs.rowAt b0_3 (Int.toNat t3)) 0) (ns (Abs.rowAt b0_3 (Int.toNat t3)) 1) (ns (Abs.rowAt b0_3 (Int.toNat t3)) 2) (nr (Abs.rowAt b0_3 (Int.toNat t3)) 3) (ns (Abs.rowAt b0_3 (Int.toNat t3)) 4)) != 0)
  (some ([.one (.int .i64 (vEff (nr (Abs.rowAt b0_3 (Int.toNat t3)) 0) (ns (Abs.rowAt b0_3 (Int.toNat t3)) 1) (ns (Abs.rowAt b0_3 (Int.toNat t3)) 2) (nr (Abs.rowAt b0_3 (Int.toNat t3)) 3) (ns (Abs.rowAt b0_3 (Int.toNat t3)) 4)))], []))
  (goF E (callOf L128) F73 0 m P73_0 (M73_0 (IntKind.wrap .i64 (t3 + 1)) b0 b0_1 b0_2 b0_3)))
  none)
  (cond (decide (b0_3.length < 9223372036854775808))
  (cond (!(comm b0_3))
  (cond (decide ((b0_3.length : Int) > 1))
  (some ([.one (.int .i64 2)], []))
  (cond (decide (b0_3.length < 9223372036854775808))
  (cond (comm b0_3)
  (cond (b0_2 != 0)
  (some ([.one (.int .i64 2)], []))
  (some ([.one (.int .i64 0)], [])))
  (some ([.one (.int .i64 0)], [])))
  none))
  (cond (decide (b0_3.length < 9223372036854775808))
  (cond (comm b0_3)
  (cond (b0_2 != 0)
  (some ([.one (.int .i64 2)], []))
  (some ([.one (.int .i64 0)], [])))
  (some ([.one (.int .i64 0)], [])))
  none))
  none)) := by kernel_rfl

theorem e129 (m : Nat) (cu qu tu : Int) (eu : List (List Cell)) (cv qv tv : Int) (ev : List (List Cell)) : runF E (callOf L73) (m + 1) 129 [.agg [.int .i64 cu, .int .i64 qu, .int .i64 tu, .sl false 136 eu], .agg [.int .i64 cv, .int .i64 qv, .int .i64 tv, .sl false 136 ev]] [] =
  (cond (decide ([[Cell.int .i64 (cmpI cu cv)], [Cell.int .i64 (cmpI qu qv)]].length < 9223372036854775808))
  (some ([.one (.int .i64 (orI1 [[Cell.int .i64 (cmpI cu cv)], [Cell.int .i64 (cmpI qu qv)]]))], []))
  none) := by kernel_rfl

theorem e74 (m : Nat) (cu qu tu : Int) (eu : List (List Cell)) (cv qv tv : Int) (ev : List (List Cell)) : runF E (callOf L129) (m + 1) 74 [.agg [.int .i64 cu, .int .i64 qu, .int .i64 tu, .sl false 136 eu], .agg [.int .i64 cv, .int .i64 qv, .int .i64 tv, .sl false 136 ev]] [] =
  (cond (decide (cu < cv))
  (some ([.one (.int .i64 (-1))], []))
  (cond (cu == cv)
  (cond (decide (qu < qv))
  (some ([.one (.int .i64 (-1))], []))
  (cond (cu == cv)
  (cond (qu == qv)
  (some ([.one (.int .i64 0)], []))
  (some ([.one (.int .i64 1)], [])))
  (some ([.one (.int .i64 1)], []))))
  (cond (cu == cv)
  (cond (qu == qv)
  (some ([.one (.int .i64 0)], []))
  (some ([.one (.int .i64 1)], [])))
  (some ([.one (.int .i64 1)], []))))) := by kernel_rfl

noncomputable def P92_0 : List AItem := F92.at [.snd, .snd, .fst, .snd, .sub, .head]

def M92_0 (t5 : Int) (b0 : Int) (b0_1 : Int) (b0_2 : Int) (b0_3 : List (List Cell)) (b1 : Int) (b1_1 : Int) (b1_2 : Int) (b1_3 : List (List Cell)) : St := ⟨[(2, .one (.ptr 0 0)), (3, .one (.ptr 1 0)), (5, .one (.int .i64 t5))], [.var [.int .i64 b0, .int .i64 b0_1, .int .i64 b0_2, .sl false 136 b0_3], .var [.int .i64 b1, .int .i64 b1_1, .int .i64 b1_2, .sl false 136 b1_3]]⟩

theorem e92 (m : Nat) (cu qu tu : Int) (eu : List (List Cell)) (cv qv tv : Int) (ev : List (List Cell)) : runF E (callOf L74) (m + 1) 92 [.agg [.int .i64 cu, .int .i64 qu, .int .i64 tu, .sl false 136 eu], .agg [.int .i64 cv, .int .i64 qv, .int .i64 tv, .sl false 136 ev]] [] =
  (cond (cu != cv)
  (some ([.one (.bool false)], []))
  (cond (qu != qv)
  (some ([.one (.bool false)], []))
  (cond (tu != tv)
  (some ([.one (.bool false)], []))
  (cond ((eu.length : Int) != (ev.length : Int))
  (some ([.one (.bool false)], []))
  (goF E (callOf L74) F92 0 m P92_0 (M92_0 0 cu qu tu eu cv qv tv ev)))))) := by kernel_rfl

theorem e92_0 (m : Nat) (t5 b0 b0_1 b0_2 : Int) (b0_3 : List (List Cell)) (b1 b1_1 b1_2 : Int) (b1_3 : List (List Cell)) : goF E (callOf L74) F92 0 (m + 1) P92_0 (M92_0 t5 b0 b0_1 b0_2 b0_3 b1 b1_1 b1_2 b1_3) =
  (cond (decide (t5 < (b0_3.length : Int)))
  (cond (inB t5 b0_3.length)
  (cond (inB t5 b1_3.length)
  (cond (!(((nr (Abs.rowAt b0_3 (Int.toNat t5)) 0) == (nr (Abs.rowAt b1_3 (Int.toNat t5)) 0)) && (((ns (Abs.rowAt b0_3 (Int.toNat t5)) 1) == (ns (Abs.rowAt b1_3 (Int.toNat t5)) 1)) && (((ns (Abs.rowAt b0_3 (Int.toNat t5)) 2) == (ns (Abs.rowAt b1_3 (Int.toNat t5)) 2)) && (((nr (Abs.rowAt b0_3 (Int.toNat t5)) 3) == (nr (Abs.rowAt b1_3 (Int.toNat t5)) 3)) && (((ns (Abs.rowAt b0_3 (Int.toNat t5)) 4) == (ns (Abs.rowAt b1_3 (Int.toNat t5)) 4)) && true))))))
  (some ([.one (.bool false)], []))
  (goF E (callOf L74) F92 0 m P92_0 (M92_0 (IntKind.wrap .i64 (t5 + 1)) b0 b0_1 b0_2 b0_3 b1 b1_1 b1_2 b1_3)))
  none)
  none)
  (some ([.one (.bool true)], []))) := by kernel_rfl

theorem e155 (m : Nat) (x : List (List Cell)) : runF E (callOf L92) (m + 1) 155 [.one (.sl false 5 x)] [] =
  (cond (okRd x)
  (cond ((udec x).2.2 != 0)
  (some ([.one (.int .i64 0), .one (.int .i64 0), .one (.int .i64 (udec x).2.2)], []))
  (some ([.one (.int .i64 (xorI .i64 (IntKind.wrap .i64 (shrI .u64 (udec x).1 1)) (IntKind.wrap .i64 (0 - (IntKind.wrap .i64 (andI .u64 (udec x).1 1)))))), .one (.int .i64 (udec x).2.1), .one (.int .i64 0)], [])))
  none) := by kernel_rfl

theorem e150 (m : Nat) (x : List (List Cell)) : runF E (callOf L155) (m + 1) 150 [.one (.sl false 5 x)] [] =
  (cond (okRd x)
  (cond ((udec x).2.2 != 0)
  (some ([.one (.int .i64 0), .one (.int .i64 0), .one (.int .i64 (udec x).2.2)], []))
  (cond ((Int.tmod (udec x).1 2) == 0)
  (some ([.one (.int .i64 (IntKind.wrap .i64 (IntKind.wrap .u64 (Int.tdiv (udec x).1 2)))), .one (.int .i64 (udec x).2.1), .one (.int .i64 0)], []))
  (some ([.one (.int .i64 (IntKind.wrap .i64 ((IntKind.wrap .i64 (0 - (IntKind.wrap .i64 (IntKind.wrap .u64 (Int.tdiv (udec x).1 2))))) - 1))), .one (.int .i64 (udec x).2.1), .one (.int .i64 0)], []))))
  none) := by kernel_rfl

theorem e154 (m : Nat) (x : List (List Cell)) : runF E (callOf L150) (m + 1) 154 [.one (.sl false 5 x)] [] =
  (cond (okRd x)
  (cond ((udec x).2.2 != 0)
  (some ([.one (.str ([] : List UInt8)), .one (.int .i64 0), .one (.int .i64 (udec x).2.2)], []))
  (cond (decide ((udec x).1 > (IntKind.wrap .u64 (IntKind.wrap .i64 ((x.length : Int) - (udec x).2.1)))))
  (some ([.one (.str ([] : List UInt8)), .one (.int .i64 0), .one (.int .i64 1)], []))
  (cond (inB (IntKind.wrap .i64 ((udec x).2.1 + (IntKind.wrap .i64 (udec x).1))) (x.length + 1))
  (cond (inB (udec x).2.1 ((Int.toNat (IntKind.wrap .i64 ((udec x).2.1 + (IntKind.wrap .i64 (udec x).1)))) + 1))
  (some ([.one (.str (toBytes (subL x (Int.toNat (udec x).2.1) (Int.toNat (IntKind.wrap .i64 ((udec x).2.1 + (IntKind.wrap .i64 (udec x).1))))))), .one (.int .i64 (IntKind.wrap .i64 ((udec x).2.1 + (IntKind.wrap .i64 (udec x).1)))), .one (.int .i64 0)], []))
  none)
  none)))
  none) := by kernel_rfl

theorem e149 (m : Nat) (x : List (List Cell)) : runF E (callOf L154) (m + 1) 149 [.one (.sl false 5 x)] [] =
  (cond (okRd x)
  (cond ((udec x).2.2 != 0)
  (some ([.one (.str ([] : List UInt8)), .one (.int .i64 0), .one (.int .i64 (udec x).2.2)], []))
  (cond (decide ((udec x).1 > (IntKind.wrap .u64 (IntKind.wrap .i64 ((x.length : Int) - (udec x).2.1)))))
  (some ([.one (.str ([] : List UInt8)), .one (.int .i64 0), .one (.int .i64 1)], []))
  (cond (inB (IntKind.wrap .i64 ((udec x).2.1 + (IntKind.wrap .i64 (udec x).1))) (x.length + 1))
  (cond (inB (udec x).2.1 ((Int.toNat (IntKind.wrap .i64 ((udec x).2.1 + (IntKind.wrap .i64 (udec x).1)))) + 1))
  (some ([.one (.str (toBytes (subL x (Int.toNat (udec x).2.1) (Int.toNat (IntKind.wrap .i64 ((udec x).2.1 + (IntKind.wrap .i64 (udec x).1))))))), .one (.int .i64 (IntKind.wrap .i64 ((udec x).2.1 + (IntKind.wrap .i64 (udec x).1)))), .one (.int .i64 0)], []))
  none)
  none)))
  none) := by kernel_rfl

theorem e146 (m : Nat) (n z : Int) (b : List (List Cell)) (o e : Int) : runF E (callOf L149) (m + 1) 146 [.one (.ptr 0 0), .one (.int .i64 n), .one (.int .i64 z)] [.var [.sl false 5 b, .int .i64 o, .int .i64 e]] =
  (some ([], [.var [.sl false 5 b, .int .i64 (IntKind.wrap .i64 (o + n)), .int .i64 z]])) := by kernel_rfl

theorem e135 (m : Nat) (b : List (List Cell)) (o e : Int) : runF E (callOf L146) (m + 1) 135 [.one (.ptr 0 0)] [.var [.sl false 5 b, .int .i64 o, .int .i64 e]] =
  (cond (e != 0)
  (some ([.one (.int .i64 0)], [.var [.sl false 5 b, .int .i64 o, .int .i64 e]]))
  (cond (inB o (b.length + 1))
  (cond (okRd (dropN b (Int.toNat o)))
  (cond ((udec (dropN b (Int.toNat o))).2.2 == 0)
  (cond (decide ((udec (dropN b (Int.toNat o))).1 > 2147483647))
  (cond (okTake o 0)
  (some ([.one (.int .i64 0)], [.var [.sl false 5 b, .int .i64 (o + 0), .int .i64 9]]))
  none)
  (cond (okTake o (udec (dropN b (Int.toNat o))).2.1)
  (some ([.one (.int .i64 (IntKind.wrap .i64 (udec (dropN b (Int.toNat o))).1))], [.var [.sl false 5 b, .int .i64 (o + (udec (dropN b (Int.toNat o))).2.1), .int .i64 (udec (dropN b (Int.toNat o))).2.2]]))
  none))
  (cond (okTake o (udec (dropN b (Int.toNat o))).2.1)
  (some ([.one (.int .i64 (IntKind.wrap .i64 (udec (dropN b (Int.toNat o))).1))], [.var [.sl false 5 b, .int .i64 (o + (udec (dropN b (Int.toNat o))).2.1), .int .i64 (udec (dropN b (Int.toNat o))).2.2]]))
  none))
  none)
  none)) := by kernel_rfl

theorem e147 (m : Nat) (b : List (List Cell)) (o e : Int) : runF E (callOf L135) (m + 1) 147 [.one (.ptr 0 0)] [.var [.sl false 5 b, .int .i64 o, .int .i64 e]] =
  (cond (e != 0)
  (some ([.one (.str ([] : List UInt8))], [.var [.sl false 5 b, .int .i64 o, .int .i64 e]]))
  (cond (inB o (b.length + 1))
  (cond (okRd (dropN b (Int.toNat o)))
  (cond (okTake o (sdec (dropN b (Int.toNat o))).2.1)
  (some ([.one (.str (sdec (dropN b (Int.toNat o))).1)], [.var [.sl false 5 b, .int .i64 (o + (sdec (dropN b (Int.toNat o))).2.1), .int .i64 (sdec (dropN b (Int.toNat o))).2.2]]))
  none)
  none)
  none)) := by kernel_rfl

theorem e148 (m : Nat) (b : List (List Cell)) (o e : Int) : runF E (callOf L147) (m + 1) 148 [.one (.ptr 0 0)] [.var [.sl false 5 b, .int .i64 o, .int .i64 e]] =
  (cond (e != 0)
  (some ([.one (.int .i64 0)], [.var [.sl false 5 b, .int .i64 o, .int .i64 e]]))
  (cond (inB o (b.length + 1))
  (cond (okRd (dropN b (Int.toNat o)))
  (cond (okTake o (idec (dropN b (Int.toNat o))).2.1)
  (some ([.one (.int .i64 (idec (dropN b (Int.toNat o))).1)], [.var [.sl false 5 b, .int .i64 (o + (idec (dropN b (Int.toNat o))).2.1), .int .i64 (idec (dropN b (Int.toNat o))).2.2]]))
  none)
  none)
  none)) := by kernel_rfl

theorem e136 (m : Nat) (b : List (List Cell)) (o e : Int) : runF E (callOf L148) (m + 1) 136 [.one (.ptr 0 0)] [.var [.sl false 5 b, .int .i64 o, .int .i64 e]] =
  (cond (okAt b o)
  (cond (okAt b (rnum b o e).2.1)
  (cond (okAt b (rtext b (rnum b o e).2.1 (rnum b o e).2.2).2.1)
  (cond (okAt b (rtext b (rtext b (rnum b o e).2.1 (rnum b o e).2.2).2.1 (rtext b (rnum b o e).2.1 (rnum b o e).2.2).2.2).2.1)
  (cond (okAt b (rint b (rtext b (rtext b (rnum b o e).2.1 (rnum b o e).2.2).2.1 (rtext b (rnum b o e).2.1 (rnum b o e).2.2).2.2).2.1 (rtext b (rtext b (rnum b o e).2.1 (rnum b o e).2.2).2.1 (rtext b (rnum b o e).2.1 (rnum b o e).2.2).2.2).2.2).2.1)
  (some ([.agg [.int .i64 (rnum b o e).1, .str (rtext b (rnum b o e).2.1 (rnum b o e).2.2).1, .str (rtext b (rtext b (rnum b o e).2.1 (rnum b o e).2.2).2.1 (rtext b (rnum b o e).2.1 (rnum b o e).2.2).2.2).1, .int .i64 (rint b (rtext b (rtext b (rnum b o e).2.1 (rnum b o e).2.2).2.1 (rtext b (rnum b o e).2.1 (rnum b o e).2.2).2.2).2.1 (rtext b (rtext b (rnum b o e).2.1 (rnum b o e).2.2).2.1 (rtext b (rnum b o e).2.1 (rnum b o e).2.2).2.2).2.2).1, .str (rtext b (rint b (rtext b (rtext b (rnum b o e).2.1 (rnum b o e).2.2).2.1 (rtext b (rnum b o e).2.1 (rnum b o e).2.2).2.2).2.1 (rtext b (rtext b (rnum b o e).2.1 (rnum b o e).2.2).2.1 (rtext b (rnum b o e).2.1 (rnum b o e).2.2).2.2).2.2).2.1 (rint b (rtext b (rtext b (rnum b o e).2.1 (rnum b o e).2.2).2.1 (rtext b (rnum b o e).2.1 (rnum b o e).2.2).2.2).2.1 (rtext b (rtext b (rnum b o e).2.1 (rnum b o e).2.2).2.1 (rtext b (rnum b o e).2.1 (rnum b o e).2.2).2.2).2.2).2.2).1]], [.var [.sl false 5 b, .int .i64 (rtext b (rint b (rtext b (rtext b (rnum b o e).2.1 (rnum b o e).2.2).2.1 (rtext b (rnum b o e).2.1 (rnum b o e).2.2).2.2).2.1 (rtext b (rtext b (rnum b o e).2.1 (rnum b o e).2.2).2.1 (rtext b (rnum b o e).2.1 (rnum b o e).2.2).2.2).2.2).2.1 (rint b (rtext b (rtext b (rnum b o e).2.1 (rnum b o e).2.2).2.1 (rtext b (rnum b o e).2.1 (rnum b o e).2.2).2.2).2.1 (rtext b (rtext b (rnum b o e).2.1 (rnum b o e).2.2).2.1 (rtext b (rnum b o e).2.1 (rnum b o e).2.2).2.2).2.2).2.2).2.1, .int .i64 (rtext b (rint b (rtext b (rtext b (rnum b o e).2.1 (rnum b o e).2.2).2.1 (rtext b (rnum b o e).2.1 (rnum b o e).2.2).2.2).2.1 (rtext b (rtext b (rnum b o e).2.1 (rnum b o e).2.2).2.1 (rtext b (rnum b o e).2.1 (rnum b o e).2.2).2.2).2.2).2.1 (rint b (rtext b (rtext b (rnum b o e).2.1 (rnum b o e).2.2).2.1 (rtext b (rnum b o e).2.1 (rnum b o e).2.2).2.2).2.1 (rtext b (rtext b (rnum b o e).2.1 (rnum b o e).2.2).2.1 (rtext b (rnum b o e).2.1 (rnum b o e).2.2).2.2).2.2).2.2).2.2]]))
  none)
  none)
  none)
  none)
  none) := by kernel_rfl

noncomputable def P118_0 : List AItem := F118.at [.snd, .snd, .snd, .snd, .snd, .snd, .snd, .fst, .snd, .sub, .head]

def M118_0 (t7 : Int) (t8 : Int) (b0 : Int) (b0_1 : Int) (b0_2 : Int) (b0_3 : List (List Cell)) (b1 : List (List Cell)) (b1_1 : Int) (b1_2 : Int) (b2 : Int) (b2_1 : Int) (b2_2 : Int) (b2_3 : List (List Cell)) : St := ⟨[(2, .one (.ptr 0 0)), (5, .one (.ptr 1 0)), (6, .one (.ptr 2 0)), (7, .one (.int .i64 t7)), (8, .one (.int .i64 t8))], [.var [.int .i64 b0, .int .i64 b0_1, .int .i64 b0_2, .sl true 136 b0_3], .var [.sl false 5 b1, .int .i64 b1_1, .int .i64 b1_2], .var [.int .i64 b2, .int .i64 b2_1, .int .i64 b2_2, .sl true 136 b2_3]]⟩

theorem e118 (m : Nat) (x : List (List Cell)) : runF E (callOf L136) (m + 1) 118 [.one (.sl false 5 x)] [] =
  (cond (okAt x 0)
  (cond (okAt x (rnum x 0 0).2.1)
  (cond (okAt x (rnum x (rnum x 0 0).2.1 (rnum x 0 0).2.2).2.1)
  (cond (okAt x (rnum x (rnum x (rnum x 0 0).2.1 (rnum x 0 0).2.2).2.1 (rnum x (rnum x 0 0).2.1 (rnum x 0 0).2.2).2.2).2.1)
  (cond ((rnum x (rnum x (rnum x (rnum x 0 0).2.1 (rnum x 0 0).2.2).2.1 (rnum x (rnum x 0 0).2.1 (rnum x 0 0).2.2).2.2).2.1 (rnum x (rnum x (rnum x 0 0).2.1 (rnum x 0 0).2.2).2.1 (rnum x (rnum x 0 0).2.1 (rnum x 0 0).2.2).2.2).2.2).2.2 == 0)
  (cond (decide ((rnum x (rnum x (rnum x (rnum x 0 0).2.1 (rnum x 0 0).2.2).2.1 (rnum x (rnum x 0 0).2.1 (rnum x 0 0).2.2).2.2).2.1 (rnum x (rnum x (rnum x 0 0).2.1 (rnum x 0 0).2.2).2.1 (rnum x (rnum x 0 0).2.1 (rnum x 0 0).2.2).2.2).2.2).1 > 4))
  (goF E (callOf L136) F118 0 m P118_0 (M118_0 (rnum x (rnum x (rnum x (rnum x 0 0).2.1 (rnum x 0 0).2.2).2.1 (rnum x (rnum x 0 0).2.1 (rnum x 0 0).2.2).2.2).2.1 (rnum x (rnum x (rnum x 0 0).2.1 (rnum x 0 0).2.2).2.1 (rnum x (rnum x 0 0).2.1 (rnum x 0 0).2.2).2.2).2.2).1 0 0 0 0 ([] : List (List Cell)) x (rnum x (rnum x (rnum x (rnum x 0 0).2.1 (rnum x 0 0).2.2).2.1 (rnum x (rnum x 0 0).2.1 (rnum x 0 0).2.2).2.2).2.1 (rnum x (rnum x (rnum x 0 0).2.1 (rnum x 0 0).2.2).2.1 (rnum x (rnum x 0 0).2.1 (rnum x 0 0).2.2).2.2).2.2).2.1 3 (rnum x 0 0).1 (rnum x (rnum x 0 0).2.1 (rnum x 0 0).2.2).1 (rnum x (rnum x (rnum x 0 0).2.1 (rnum x 0 0).2.2).2.1 (rnum x (rnum x 0 0).2.1 (rnum x 0 0).2.2).2.2).1 ([] : List (List Cell))))
  (goF E (callOf L136) F118 0 m P118_0 (M118_0 (rnum x (rnum x (rnum x (rnum x 0 0).2.1 (rnum x 0 0).2.2).2.1 (rnum x (rnum x 0 0).2.1 (rnum x 0 0).2.2).2.2).2.1 (rnum x (rnum x (rnum x 0 0).2.1 (rnum x 0 0).2.2).2.1 (rnum x (rnum x 0 0).2.1 (rnum x 0 0).2.2).2.2).2.2).1 0 0 0 0 ([] : List (List Cell)) x (rnum x (rnum x (rnum x (rnum x 0 0).2.1 (rnum x 0 0).2.2).2.1 (rnum x (rnum x 0 0).2.1 (rnum x 0 0).2.2).2.2).2.1 (rnum x (rnum x (rnum x 0 0).2.1 (rnum x 0 0).2.2).2.1 (rnum x (rnum x 0 0).2.1 (rnum x 0 0).2.2).2.2).2.2).2.1 (rnum x (rnum x (rnum x (rnum x 0 0).2.1 (rnum x 0 0).2.2).2.1 (rnum x (rnum x 0 0).2.1 (rnum x 0 0).2.2).2.2).2.1 (rnum x (rnum x (rnum x 0 0).2.1 (rnum x 0 0).2.2).2.1 (rnum x (rnum x 0 0).2.1 (rnum x 0 0).2.2).2.2).2.2).2.2 (rnum x 0 0).1 (rnum x (rnum x 0 0).2.1 (rnum x 0 0).2.2).1 (rnum x (rnum x (rnum x 0 0).2.1 (rnum x 0 0).2.2).2.1 (rnum x (rnum x 0 0).2.1 (rnum x 0 0).2.2).2.2).1 ([] : List (List Cell)))))
  (goF E (callOf L136) F118 0 m P118_0 (M118_0 (rnum x (rnum x (rnum x (rnum x 0 0).2.1 (rnum x 0 0).2.2).2.1 (rnum x (rnum x 0 0).2.1 (rnum x 0 0).2.2).2.2).2.1 (rnum x (rnum x (rnum x 0 0).2.1 (rnum x 0 0).2.2).2.1 (rnum x (rnum x 0 0).2.1 (rnum x 0 0).2.2).2.2).2.2).1 0 0 0 0 ([] : List (List Cell)) x (rnum x (rnum x (rnum x (rnum x 0 0).2.1 (rnum x 0 0).2.2).2.1 (rnum x (rnum x 0 0).2.1 (rnum x 0 0).2.2).2.2).2.1 (rnum x (rnum x (rnum x 0 0).2.1 (rnum x 0 0).2.2).2.1 (rnum x (rnum x 0 0).2.1 (rnum x 0 0).2.2).2.2).2.2).2.1 (rnum x (rnum x (rnum x (rnum x 0 0).2.1 (rnum x 0 0).2.2).2.1 (rnum x (rnum x 0 0).2.1 (rnum x 0 0).2.2).2.2).2.1 (rnum x (rnum x (rnum x 0 0).2.1 (rnum x 0 0).2.2).2.1 (rnum x (rnum x 0 0).2.1 (rnum x 0 0).2.2).2.2).2.2).2.2 (rnum x 0 0).1 (rnum x (rnum x 0 0).2.1 (rnum x 0 0).2.2).1 (rnum x (rnum x (rnum x 0 0).2.1 (rnum x 0 0).2.2).2.1 (rnum x (rnum x 0 0).2.1 (rnum x 0 0).2.2).2.2).1 ([] : List (List Cell)))))
  none)
  none)
  none)
  none) := by kernel_rfl

theorem e118_0 (m : Nat) (t7 t8 b0 b0_1 b0_2 : Int) (b0_3 b1 : List (List Cell)) (b1_1 b1_2 b2 b2_1 b2_2 : Int) (b2_3 : List (List Cell)) : goF E (callOf L136) F118 0 (m + 1) P118_0 (M118_0 t7 t8 b0 b0_1 b0_2 b0_3 b1 b1_1 b1_2 b2 b2_1 b2_2 b2_3) =
  (cond (decide (t8 < t7))
  (cond (b1_2 == 0)
  (cond (okAt b1 b1_1)
  (cond (fits (b2_3.length + [[Cell.int .i64 (reff b1 b1_1 b1_2).1.1, Cell.str (reff b1 b1_1 b1_2).1.2.1, Cell.str (reff b1 b1_1 b1_2).1.2.2.1, Cell.int .i64 (reff b1 b1_1 b1_2).1.2.2.2.1, Cell.str (reff b1 b1_1 b1_2).1.2.2.2.2]].length))
  (goF E (callOf L136) F118 0 m P118_0 (M118_0 t7 (IntKind.wrap .i64 (t8 + 1)) b0 b0_1 b0_2 b0_3 b1 (reff b1 b1_1 b1_2).2.1 (reff b1 b1_1 b1_2).2.2 b2 b2_1 b2_2 (b2_3 ++ [[Cell.int .i64 (reff b1 b1_1 b1_2).1.1, Cell.str (reff b1 b1_1 b1_2).1.2.1, Cell.str (reff b1 b1_1 b1_2).1.2.2.1, Cell.int .i64 (reff b1 b1_1 b1_2).1.2.2.2.1, Cell.str (reff b1 b1_1 b1_2).1.2.2.2.2]])))
  none)
  none)
  (cond (b1_2 == 0)
  (cond ((vUpd b2 b2_1 b2_2 b2_3) != 0)
  (some ([.agg [.int .i64 0, .int .i64 0, .int .i64 0, .sl true 136 ([] : List (List Cell))], .one (.int .i64 0), .one (.int .i64 (vUpd b2 b2_1 b2_2 b2_3))], []))
  (some ([.agg [.int .i64 b2, .int .i64 b2_1, .int .i64 b2_2, .sl true 136 b2_3], .one (.int .i64 b1_1), .one (.int .i64 0)], [])))
  (cond (b1_2 != 0)
  (some ([.agg [.int .i64 0, .int .i64 0, .int .i64 0, .sl true 136 ([] : List (List Cell))], .one (.int .i64 0), .one (.int .i64 b1_2)], []))
  (some ([.agg [.int .i64 b2, .int .i64 b2_1, .int .i64 b2_2, .sl true 136 b2_3], .one (.int .i64 b1_1), .one (.int .i64 0)], [])))))
  (cond (b1_2 == 0)
  (cond ((vUpd b2 b2_1 b2_2 b2_3) != 0)
  (some ([.agg [.int .i64 0, .int .i64 0, .int .i64 0, .sl true 136 ([] : List (List Cell))], .one (.int .i64 0), .one (.int .i64 (vUpd b2 b2_1 b2_2 b2_3))], []))
  (some ([.agg [.int .i64 b2, .int .i64 b2_1, .int .i64 b2_2, .sl true 136 b2_3], .one (.int .i64 b1_1), .one (.int .i64 0)], [])))
  (cond (b1_2 != 0)
  (some ([.agg [.int .i64 0, .int .i64 0, .int .i64 0, .sl true 136 ([] : List (List Cell))], .one (.int .i64 0), .one (.int .i64 b1_2)], []))
  (some ([.agg [.int .i64 b2, .int .i64 b2_1, .int .i64 b2_2, .sl true 136 b2_3], .one (.int .i64 b1_1), .one (.int .i64 0)], []))))) := by kernel_rfl

theorem e137 (m : Nat) (x : List (List Cell)) : runF E (callOf L118) (m + 1) 137 [.one (.sl false 5 x)] [] =
  let z1 := sdec (dropN x (Int.toNat (rnum2 x).2.1))
  let z2 := IntKind.wrap .i64 ((rnum2 x).2.1 + z1.2.1)
  let z3 := IntKind.wrap .i64 (z2 + (sdec (dropN x (Int.toNat z2))).2.1)
  let z4 := IntKind.wrap .i64 (z3 + (idec (dropN x (Int.toNat z3))).2.1)
  (cond (okRd x)
  (cond ((rnum2 x).2.2 != 0)
  (some ([.agg [.int .i64 0, .str ([] : List UInt8), .str ([] : List UInt8), .int .i64 0, .str ([] : List UInt8)], .one (.int .i64 0), .one (.int .i64 (rnum2 x).2.2)], []))
  (cond (inB (rnum2 x).2.1 (x.length + 1))
  (cond (okRd (dropN x (Int.toNat (rnum2 x).2.1)))
  (cond (z1.2.2 != 0)
  (some ([.agg [.int .i64 0, .str ([] : List UInt8), .str ([] : List UInt8), .int .i64 0, .str ([] : List UInt8)], .one (.int .i64 0), .one (.int .i64 z1.2.2)], []))
  (cond (inB z2 (x.length + 1))
  (cond (okRd (dropN x (Int.toNat z2)))
  (cond ((sdec (dropN x (Int.toNat z2))).2.2 != 0)
  (some ([.agg [.int .i64 0, .str ([] : List UInt8), .str ([] : List UInt8), .int .i64 0, .str ([] : List UInt8)], .one (.int .i64 0), .one (.int .i64 (sdec (dropN x (Int.toNat z2))).2.2)], []))
  (cond (inB z3 (x.length + 1))
  (cond (okRd (dropN x (Int.toNat z3)))
  (cond ((idec (dropN x (Int.toNat z3))).2.2 != 0)
  (some ([.agg [.int .i64 0, .str ([] : List UInt8), .str ([] : List UInt8), .int .i64 0, .str ([] : List UInt8)], .one (.int .i64 0), .one (.int .i64 (idec (dropN x (Int.toNat z3))).2.2)], []))
  (cond (inB z4 (x.length + 1))
  (cond (okRd (dropN x (Int.toNat z4)))
  (cond ((sdec (dropN x (Int.toNat z4))).2.2 != 0)
  (some ([.agg [.int .i64 0, .str ([] : List UInt8), .str ([] : List UInt8), .int .i64 0, .str ([] : List UInt8)], .one (.int .i64 0), .one (.int .i64 (sdec (dropN x (Int.toNat z4))).2.2)], []))
  (some ([.agg [.int .i64 (rnum2 x).1, .str z1.1, .str (sdec (dropN x (Int.toNat z2))).1, .int .i64 (idec (dropN x (Int.toNat z3))).1, .str (sdec (dropN x (Int.toNat z4))).1], .one (.int .i64 (IntKind.wrap .i64 (z4 + (sdec (dropN x (Int.toNat z4))).2.1))), .one (.int .i64 0)], [])))
  none)
  none))
  none)
  none))
  none)
  none))
  none)
  none))
  none) := by kernel_rfl

noncomputable def P120_0 : List AItem := F120.at [.snd, .snd, .snd, .snd, .snd, .fst, .snd, .sub, .head]

def M120_0 (t0 : List (List Cell)) (t5 : List (List Cell)) (t6 : Int) (t9 : Int) (b0 : Int) (b0_1 : Int) (b0_2 : Int) (b0_3 : List (List Cell)) (b1 : Int) (b1_1 : Int) (b1_2 : Int) (b1_3 : List (List Cell)) : St := ⟨[(0, .one (.sl false 5 t0)), (2, .one (.ptr 0 0)), (5, .one (.sl false 3 t5)), (6, .one (.int .i64 t6)), (8, .one (.ptr 1 0)), (9, .one (.int .i64 t9))], [.var [.int .i64 b0, .int .i64 b0_1, .int .i64 b0_2, .sl true 136 b0_3], .var [.int .i64 b1, .int .i64 b1_1, .int .i64 b1_2, .sl true 136 b1_3]]⟩

theorem e120 (m : Nat) (x : List (List Cell)) : runF E (callOf L137) (m + 1) 120 [.one (.sl false 5 x)] [] =
  (cond (okRd x && decide (4 ≤ 1000))
  (cond ((rread x 4).2.2 != 0)
  (some ([.agg [.int .i64 0, .int .i64 0, .int .i64 0, .sl true 136 ([] : List (List Cell))], .one (.int .i64 0), .one (.int .i64 (rread x 4).2.2)], []))
  (cond (inB 3 (rread x 4).1.length)
  (cond (decide ((nr (Abs.rowAt (rread x 4).1 3) 0) > 4))
  (some ([.agg [.int .i64 0, .int .i64 0, .int .i64 0, .sl true 136 ([] : List (List Cell))], .one (.int .i64 0), .one (.int .i64 3)], []))
  (cond (inB 0 (rread x 4).1.length)
  (cond (inB 1 (rread x 4).1.length)
  (cond (inB 2 (rread x 4).1.length)
  (goF E (callOf L137) F120 0 m P120_0 (M120_0 x (rread x 4).1 (rread x 4).2.1 0 0 0 0 ([] : List (List Cell)) (nr (Abs.rowAt (rread x 4).1 0) 0) (nr (Abs.rowAt (rread x 4).1 1) 0) (nr (Abs.rowAt (rread x 4).1 2) 0) ([] : List (List Cell))))
  none)
  none)
  none))
  none))
  none) := by kernel_rfl

theorem e120_0 (m : Nat) (t0 t5 : List (List Cell)) (t6 t9 b0 b0_1 b0_2 : Int) (b0_3 : List (List Cell)) (b1 b1_1 b1_2 : Int) (b1_3 : List (List Cell)) : goF E (callOf L137) F120 0 (m + 1) P120_0 (M120_0 t0 t5 t6 t9 b0 b0_1 b0_2 b0_3 b1 b1_1 b1_2 b1_3) =
  (cond (inB 3 t5.length)
  (cond (decide (t9 < (nr (Abs.rowAt t5 3) 0)))
  (cond (inB t6 (t0.length + 1))
  (cond (okRd (dropN t0 (Int.toNat t6)))
  (cond ((deff (dropN t0 (Int.toNat t6))).2.2 != 0)
  (some ([.agg [.int .i64 0, .int .i64 0, .int .i64 0, .sl true 136 ([] : List (List Cell))], .one (.int .i64 0), .one (.int .i64 (deff (dropN t0 (Int.toNat t6))).2.2)], []))
  (cond (fits (b1_3.length + [[Cell.int .i64 (deff (dropN t0 (Int.toNat t6))).1.1, Cell.str (deff (dropN t0 (Int.toNat t6))).1.2.1, Cell.str (deff (dropN t0 (Int.toNat t6))).1.2.2.1, Cell.int .i64 (deff (dropN t0 (Int.toNat t6))).1.2.2.2.1, Cell.str (deff (dropN t0 (Int.toNat t6))).1.2.2.2.2]].length))
  (goF E (callOf L137) F120 0 m P120_0 (M120_0 t0 t5 (IntKind.wrap .i64 (t6 + (deff (dropN t0 (Int.toNat t6))).2.1)) (IntKind.wrap .i64 (t9 + 1)) b0 b0_1 b0_2 b0_3 b1 b1_1 b1_2 (b1_3 ++ [[Cell.int .i64 (deff (dropN t0 (Int.toNat t6))).1.1, Cell.str (deff (dropN t0 (Int.toNat t6))).1.2.1, Cell.str (deff (dropN t0 (Int.toNat t6))).1.2.2.1, Cell.int .i64 (deff (dropN t0 (Int.toNat t6))).1.2.2.2.1, Cell.str (deff (dropN t0 (Int.toNat t6))).1.2.2.2.2]])))
  none))
  none)
  none)
  (cond ((vUpd b1 b1_1 b1_2 b1_3) != 0)
  (some ([.agg [.int .i64 0, .int .i64 0, .int .i64 0, .sl true 136 ([] : List (List Cell))], .one (.int .i64 0), .one (.int .i64 (vUpd b1 b1_1 b1_2 b1_3))], []))
  (some ([.agg [.int .i64 b1, .int .i64 b1_1, .int .i64 b1_2, .sl true 136 b1_3], .one (.int .i64 t6), .one (.int .i64 0)], []))))
  none) := by kernel_rfl

noncomputable def P110_0 : List AItem := F110.at [.snd, .fst, .snd, .sub, .head]

def M110_0 (t0 : List (List Cell)) (t6 : List (List Cell)) (t7 : Int) (t8 : Int) : St := ⟨[(0, .one (.sl false 96 t0)), (6, .one (.sl false 96 t6)), (7, .one (.int .i64 t7)), (8, .one (.int .i64 t8))], []⟩

theorem e110 (m : Nat) (c : List (List Cell)) : runF E (callOf L120) (m + 1) 110 [.one (.sl false 96 c)] [] =
  (goF E (callOf L120) F110 0 m P110_0 (M110_0 c c (c.length : Int) 0)) := by kernel_rfl

theorem e110_0 (m : Nat) (t0 t6 : List (List Cell)) (t7 t8 : Int) : goF E (callOf L120) F110 0 (m + 1) P110_0 (M110_0 t0 t6 t7 t8) =
  (cond (decide (t8 < t7))
  (cond (inB t8 t6.length)
  (cond ((vUpd (nr (Abs.rowAt t6 (Int.toNat t8)) 0) (nr (Abs.rowAt t6 (Int.toNat t8)) 1) (nr (Abs.rowAt t6 (Int.toNat t8)) 2) (nl (Abs.rowAt t6 (Int.toNat t8)) 3)) != 0)
  (some ([.one (.int .i64 (vUpd (nr (Abs.rowAt t6 (Int.toNat t8)) 0) (nr (Abs.rowAt t6 (Int.toNat t8)) 1) (nr (Abs.rowAt t6 (Int.toNat t8)) 2) (nl (Abs.rowAt t6 (Int.toNat t8)) 3)))], []))
  (cond (decide (t8 > 0))
  (cond (inB (IntKind.wrap .i64 (t8 - 1)) t0.length)
  (cond (decide ((cmpU (nr (Abs.rowAt t6 (Int.toNat t8)) 0) (nr (Abs.rowAt t6 (Int.toNat t8)) 1) (nr (Abs.rowAt t0 (Int.toNat (IntKind.wrap .i64 (t8 - 1)))) 0) (nr (Abs.rowAt t0 (Int.toNat (IntKind.wrap .i64 (t8 - 1)))) 1)) ≤ 0))
  (some ([.one (.int .i64 7)], []))
  (cond (decide ((nr (Abs.rowAt t6 (Int.toNat t8)) 1) > 1))
  (cond (t8 == 0)
  (some ([.one (.int .i64 8)], []))
  (cond (inB (IntKind.wrap .i64 (t8 - 1)) t0.length)
  (cond ((nr (Abs.rowAt t0 (Int.toNat (IntKind.wrap .i64 (t8 - 1)))) 0) != (nr (Abs.rowAt t6 (Int.toNat t8)) 0))
  (some ([.one (.int .i64 8)], []))
  (cond (inB (IntKind.wrap .i64 (t8 - 1)) t0.length)
  (cond ((nr (Abs.rowAt t0 (Int.toNat (IntKind.wrap .i64 (t8 - 1)))) 1) != (IntKind.wrap .i64 ((nr (Abs.rowAt t6 (Int.toNat t8)) 1) - 1)))
  (some ([.one (.int .i64 8)], []))
  (goF E (callOf L120) F110 0 m P110_0 (M110_0 t0 t6 t7 (IntKind.wrap .i64 (t8 + 1)))))
  none))
  none))
  (goF E (callOf L120) F110 0 m P110_0 (M110_0 t0 t6 t7 (IntKind.wrap .i64 (t8 + 1))))))
  none)
  (cond (decide ((nr (Abs.rowAt t6 (Int.toNat t8)) 1) > 1))
  (cond (t8 == 0)
  (some ([.one (.int .i64 8)], []))
  (cond (inB (IntKind.wrap .i64 (t8 - 1)) t0.length)
  (cond ((nr (Abs.rowAt t0 (Int.toNat (IntKind.wrap .i64 (t8 - 1)))) 0) != (nr (Abs.rowAt t6 (Int.toNat t8)) 0))
  (some ([.one (.int .i64 8)], []))
  (cond (inB (IntKind.wrap .i64 (t8 - 1)) t0.length)
  (cond ((nr (Abs.rowAt t0 (Int.toNat (IntKind.wrap .i64 (t8 - 1)))) 1) != (IntKind.wrap .i64 ((nr (Abs.rowAt t6 (Int.toNat t8)) 1) - 1)))
  (some ([.one (.int .i64 8)], []))
  (goF E (callOf L120) F110 0 m P110_0 (M110_0 t0 t6 t7 (IntKind.wrap .i64 (t8 + 1)))))
  none))
  none))
  (goF E (callOf L120) F110 0 m P110_0 (M110_0 t0 t6 t7 (IntKind.wrap .i64 (t8 + 1)))))))
  none)
  (some ([.one (.int .i64 0)], []))) := by kernel_rfl

noncomputable def P71_0 : List AItem := F71.at [.snd, .fst, .snd, .sub, .head]

def M71_0 (t0 : List (List Cell)) (t3 : Int) : St := ⟨[(0, .one (.sl false 96 t0)), (3, .one (.int .i64 t3))], []⟩

theorem e71 (m : Nat) (c : List (List Cell)) : runF E (callOf L110) (m + 1) 71 [.one (.sl false 96 c)] [] =
  (goF E (callOf L110) F71 0 m P71_0 (M71_0 c 0)) := by kernel_rfl

theorem e71_0 (m : Nat) (t0 : List (List Cell)) (t3 : Int) : goF E (callOf L110) F71 0 (m + 1) P71_0 (M71_0 t0 t3) =
  (cond (decide (t3 < (t0.length : Int)))
  (cond (inB t3 t0.length)
  (cond ((vUpd (nr (Abs.rowAt t0 (Int.toNat t3)) 0) (nr (Abs.rowAt t0 (Int.toNat t3)) 1) (nr (Abs.rowAt t0 (Int.toNat t3)) 2) (nl (Abs.rowAt t0 (Int.toNat t3)) 3)) != 0)
  (some ([.one (.int .i64 (vUpd (nr (Abs.rowAt t0 (Int.toNat t3)) 0) (nr (Abs.rowAt t0 (Int.toNat t3)) 1) (nr (Abs.rowAt t0 (Int.toNat t3)) 2) (nl (Abs.rowAt t0 (Int.toNat t3)) 3)))], []))
  (cond (decide (t3 > 0))
  (cond (inB (IntKind.wrap .i64 (t3 - 1)) t0.length)
  (cond (inB t3 t0.length)
  (cond (decide ((cmpU (nr (Abs.rowAt t0 (Int.toNat (IntKind.wrap .i64 (t3 - 1)))) 0) (nr (Abs.rowAt t0 (Int.toNat (IntKind.wrap .i64 (t3 - 1)))) 1) (nr (Abs.rowAt t0 (Int.toNat t3)) 0) (nr (Abs.rowAt t0 (Int.toNat t3)) 1)) ≥ 0))
  (some ([.one (.int .i64 7)], []))
  (cond (inB t3 t0.length)
  (cond (decide ((nr (Abs.rowAt t0 (Int.toNat t3)) 1) > 1))
  (cond (t3 == 0)
  (some ([.one (.int .i64 8)], []))
  (cond (inB (IntKind.wrap .i64 (t3 - 1)) t0.length)
  (cond (inB t3 t0.length)
  (cond ((nr (Abs.rowAt t0 (Int.toNat (IntKind.wrap .i64 (t3 - 1)))) 0) != (nr (Abs.rowAt t0 (Int.toNat t3)) 0))
  (some ([.one (.int .i64 8)], []))
  (cond (inB (IntKind.wrap .i64 (t3 - 1)) t0.length)
  (cond (inB t3 t0.length)
  (cond ((nr (Abs.rowAt t0 (Int.toNat (IntKind.wrap .i64 (t3 - 1)))) 1) != (IntKind.wrap .i64 ((nr (Abs.rowAt t0 (Int.toNat t3)) 1) - 1)))
  (some ([.one (.int .i64 8)], []))
  (goF E (callOf L110) F71 0 m P71_0 (M71_0 t0 (IntKind.wrap .i64 (t3 + 1)))))
  none)
  none))
  none)
  none))
  (goF E (callOf L110) F71 0 m P71_0 (M71_0 t0 (IntKind.wrap .i64 (t3 + 1)))))
  none))
  none)
  none)
  (cond (inB t3 t0.length)
  (cond (decide ((nr (Abs.rowAt t0 (Int.toNat t3)) 1) > 1))
  (cond (t3 == 0)
  (some ([.one (.int .i64 8)], []))
  (cond (inB (IntKind.wrap .i64 (t3 - 1)) t0.length)
  (cond (inB t3 t0.length)
  (cond ((nr (Abs.rowAt t0 (Int.toNat (IntKind.wrap .i64 (t3 - 1)))) 0) != (nr (Abs.rowAt t0 (Int.toNat t3)) 0))
  (some ([.one (.int .i64 8)], []))
  (cond (inB (IntKind.wrap .i64 (t3 - 1)) t0.length)
  (cond (inB t3 t0.length)
  (cond ((nr (Abs.rowAt t0 (Int.toNat (IntKind.wrap .i64 (t3 - 1)))) 1) != (IntKind.wrap .i64 ((nr (Abs.rowAt t0 (Int.toNat t3)) 1) - 1)))
  (some ([.one (.int .i64 8)], []))
  (goF E (callOf L110) F71 0 m P71_0 (M71_0 t0 (IntKind.wrap .i64 (t3 + 1)))))
  none)
  none))
  none)
  none))
  (goF E (callOf L110) F71 0 m P71_0 (M71_0 t0 (IntKind.wrap .i64 (t3 + 1)))))
  none)))
  none)
  (some ([.one (.int .i64 0)], []))) := by kernel_rfl

noncomputable def P39_0 : List AItem := F39.at [.snd, .snd, .fst, .snd, .sub, .head]

def M39_0 (t0 : List (List Cell)) (t1 : List (List Cell)) (t5 : Int) : St := ⟨[(0, .one (.sl false 96 t0)), (1, .one (.sl false 96 t1)), (5, .one (.int .i64 t5))], []⟩

theorem e39 (m : Nat) (c d : List (List Cell)) : runF E (callOf L71) (m + 1) 39 [.one (.sl false 96 c), .one (.sl false 96 d)] [] =
  (cond ((c.length : Int) != (d.length : Int))
  (some ([.one (.bool false)], []))
  (goF E (callOf L71) F39 0 m P39_0 (M39_0 c d 0))) := by kernel_rfl

theorem e39_0 (m : Nat) (t0 t1 : List (List Cell)) (t5 : Int) : goF E (callOf L71) F39 0 (m + 1) P39_0 (M39_0 t0 t1 t5) =
  (cond (decide (t5 < (t0.length : Int)))
  (cond (inB t5 t0.length)
  (cond (inB t5 t1.length)
  (cond (decide ((nl (Abs.rowAt t0 (Int.toNat t5)) 3).length < 9223372036854775808))
  (cond (!(eqU (nr (Abs.rowAt t0 (Int.toNat t5)) 0) (nr (Abs.rowAt t0 (Int.toNat t5)) 1) (nr (Abs.rowAt t0 (Int.toNat t5)) 2) (nl (Abs.rowAt t0 (Int.toNat t5)) 3) (nr (Abs.rowAt t1 (Int.toNat t5)) 0) (nr (Abs.rowAt t1 (Int.toNat t5)) 1) (nr (Abs.rowAt t1 (Int.toNat t5)) 2) (nl (Abs.rowAt t1 (Int.toNat t5)) 3)))
  (some ([.one (.bool false)], []))
  (goF E (callOf L71) F39 0 m P39_0 (M39_0 t0 t1 (IntKind.wrap .i64 (t5 + 1)))))
  none)
  none)
  none)
  (some ([.one (.bool true)], []))) := by kernel_rfl

noncomputable def P87_0 : List AItem := F87.at [.snd, .snd, .snd, .snd, .snd, .fst, .snd, .sub, .head]

def M87_0 (t0 : List (List Cell)) (t5 : Int) (t6 : Int) (t8 : List (List Cell)) (t9 : Int) : St := ⟨[(0, .one (.sl false 5 t0)), (5, .one (.int .i64 t5)), (6, .one (.int .i64 t6)), (8, .one (.sl true 96 t8)), (9, .one (.int .i64 t9))], []⟩

theorem e87 (m : Nat) (x : List (List Cell)) : runF E (callOf L39) (m + 1) 87 [.one (.sl false 5 x)] [] =
  (cond (okRd x)
  (cond ((rnum2 x).2.2 != 0)
  (some ([.one (.sl true 96 ([] : List (List Cell))), .one (.int .i64 0), .one (.int .i64 (rnum2 x).2.2)], []))
  (cond (decide ((rnum2 x).1 > 48))
  (some ([.one (.sl true 96 ([] : List (List Cell))), .one (.int .i64 0), .one (.int .i64 3)], []))
  (goF E (callOf L39) F87 0 m P87_0 (M87_0 x (rnum2 x).1 (rnum2 x).2.1 ([] : List (List Cell)) 0))))
  none) := by kernel_rfl

theorem e87_0 (m : Nat) (t0 : List (List Cell)) (t5 t6 : Int) (t8 : List (List Cell)) (t9 : Int) : goF E (callOf L39) F87 0 (m + 1) P87_0 (M87_0 t0 t5 t6 t8 t9) =
  (cond (decide (t9 < t5))
  (cond (inB t6 (t0.length + 1))
  (cond (okRd (dropN t0 (Int.toNat t6)))
  (cond ((decU (dropN t0 (Int.toNat t6))).2.2.2.2.2 != 0)
  (some ([.one (.sl true 96 ([] : List (List Cell))), .one (.int .i64 0), .one (.int .i64 (decU (dropN t0 (Int.toNat t6))).2.2.2.2.2)], []))
  (cond (fits (t8.length + [[Cell.int .i64 (decU (dropN t0 (Int.toNat t6))).1, Cell.int .i64 (decU (dropN t0 (Int.toNat t6))).2.1, Cell.int .i64 (decU (dropN t0 (Int.toNat t6))).2.2.1, Cell.slice 136 (decU (dropN t0 (Int.toNat t6))).2.2.2.1]].length))
  (goF E (callOf L39) F87 0 m P87_0 (M87_0 t0 t5 (IntKind.wrap .i64 (t6 + (decU (dropN t0 (Int.toNat t6))).2.2.2.2.1)) (t8 ++ [[Cell.int .i64 (decU (dropN t0 (Int.toNat t6))).1, Cell.int .i64 (decU (dropN t0 (Int.toNat t6))).2.1, Cell.int .i64 (decU (dropN t0 (Int.toNat t6))).2.2.1, Cell.slice 136 (decU (dropN t0 (Int.toNat t6))).2.2.2.1]]) (IntKind.wrap .i64 (t9 + 1))))
  none))
  none)
  none)
  (some ([.one (.sl true 96 t8), .one (.int .i64 t6), .one (.int .i64 0)], []))) := by kernel_rfl

end Go.Proofs.YtejimgikldiajaaGreat
