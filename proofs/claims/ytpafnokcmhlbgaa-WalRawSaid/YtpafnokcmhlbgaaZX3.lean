/-
  WalRaw returns true: for every argument; no condition.
-/
import Derived.Test.YtpafnokcmhlbgaaZ5
import Derived.Test.YtpafnokcmhlbgaaRows
import Derived.JoinedOf
import Derived.JoinedAt
import Derived.ChangeSame
import Derived.JoinedCond
namespace Go.Proofs.Ytpafnokcmhlbgaa
open Go.Abs Go.ChangeShapes Go.WideShapes Go.ChangeAt
set_option maxRecDepth 100000

theorem args3 {rows : List (List Cell)} (h : ArgsOk E [3, 22, 22, 3, 3, 23, 3] rows) : ∃ (z : Int) (a : List (List Cell)) (b : List (List Cell)) (g : Int) (j : Int) (r : List (List Cell)) (w : Int), rows = [[Cell.int .i64 z], [Cell.slice 5 a], [Cell.slice 5 b], [Cell.int .i64 g], [Cell.int .i64 j], [Cell.slice 22 r], [Cell.int .i64 w]] := by
  obtain ⟨r0, q0, rfl, k0_0, -, h⟩ := argsOk_cons (ks := [.int .i64]) h (by kernel_rfl)
  obtain ⟨r1, q1, rfl, k1_0, -, h⟩ := argsOk_cons (ks := [.slice 5]) h (by kernel_rfl)
  obtain ⟨r2, q2, rfl, k2_0, -, h⟩ := argsOk_cons (ks := [.slice 5]) h (by kernel_rfl)
  obtain ⟨r3, q3, rfl, k3_0, -, h⟩ := argsOk_cons (ks := [.int .i64]) h (by kernel_rfl)
  obtain ⟨r4, q4, rfl, k4_0, -, h⟩ := argsOk_cons (ks := [.int .i64]) h (by kernel_rfl)
  obtain ⟨r5, q5, rfl, k5_0, -, h⟩ := argsOk_cons (ks := [.slice 22]) h (by kernel_rfl)
  obtain ⟨r6, q6, rfl, k6_0, -, h⟩ := argsOk_cons (ks := [.int .i64]) h (by kernel_rfl)
  obtain rfl := argsOk_nil h
  obtain ⟨_, _, rfl, e0_0, k0_1⟩ := row_cons k0_0
  obtain ⟨z, rfl⟩ := kind_int e0_0
  obtain rfl := row_nil k0_1
  obtain ⟨_, _, rfl, e1_0, k1_1⟩ := row_cons k1_0
  obtain ⟨a, rfl⟩ := kind_slice e1_0
  obtain rfl := row_nil k1_1
  obtain ⟨_, _, rfl, e2_0, k2_1⟩ := row_cons k2_0
  obtain ⟨b, rfl⟩ := kind_slice e2_0
  obtain rfl := row_nil k2_1
  obtain ⟨_, _, rfl, e3_0, k3_1⟩ := row_cons k3_0
  obtain ⟨g, rfl⟩ := kind_int e3_0
  obtain rfl := row_nil k3_1
  obtain ⟨_, _, rfl, e4_0, k4_1⟩ := row_cons k4_0
  obtain ⟨j, rfl⟩ := kind_int e4_0
  obtain rfl := row_nil k4_1
  obtain ⟨_, _, rfl, e5_0, k5_1⟩ := row_cons k5_0
  obtain ⟨r, rfl⟩ := kind_slice e5_0
  obtain rfl := row_nil k5_1
  obtain ⟨_, _, rfl, e6_0, k6_1⟩ := row_cons k6_0
  obtain ⟨w, rfl⟩ := kind_int e6_0
  obtain rfl := row_nil k6_1
  exact ⟨z, a, b, g, j, r, w, rfl⟩

theorem lifted3 (os : Os) (started : os.Started) (H : Type) (enc : TypeId × Value → H) :
    ReturnsInHanded {} Try.checked os 3 .any (Rows.walRawSpec.pre6 enc Try.prog Try.f3 Rows.walRawRow.domain false) (Rows.walRawSpec.post enc Try.prog Try.f3 false true false false) := by
  refine returnsInHanded_of_change (C := Try.checked) ownk started (by kernel_rfl) Try.func3
    (ChangeSpec.witness6 (enc := enc) (C := Try.checked) false ⟨#[], #[.int .i64 0, .slice none 0 0, .slice none 0 0, .int .i64 0, .int .i64 0, .slice none 0 0, .int .i64 0], []⟩ 8 (by kernel_rfl) (by kernel_rfl) (by kernel_rfl) (by kernel_rfl)) ?_
  intro W base args ds gs before hval hW _ _
  refine contract (s := Rows.walRawSpec) good mixed funcsOk (ts := [3, 22, 22, 3, 3, 23, 3]) (tb := 4) (by kernel_rfl) (by kernel_rfl) (by kernel_rfl) rfl ?_ (by kernel_rfl) hval hW ?_
  · intro ds hd
    match ds, hd with
    | [_, _, _, _, _, _, _], _ => exact rfl
  · intro rows hr hbulk
    have hr' := hr
    obtain ⟨z, a, b, g, j, r, w, rfl⟩ := args3 hr
    refine valid_run L3 valid3 3 _ _ _ ?_
    have h1 := okB_wf ((argsOk_wf (argsOk_wf hr').2).1 _ List.mem_cons_self)
    have h2 := okB_wf ((argsOk_wf (argsOk_wf (argsOk_wf hr').2).2).1 _ List.mem_cons_self)
    have h3 := arg_wf ((argsOk_wf (argsOk_wf (argsOk_wf (argsOk_wf (argsOk_wf (argsOk_wf hr').2).2).2).2).2).1 _ List.mem_cons_self)
    exact congrArg (fun b => (b, (([.one (.bool true)], []) : List AV × List Block))) (by rw [h1, h2, h3]; rfl)

theorem proved3 : Rows.WalRawSaid :=
  OpenClaim.holds_of_wide 3 Try.f3 rfl rfl rfl rfl rfl rfl rfl ⟨rfl, rfl, rfl, rfl, rfl⟩ rfl rfl rfl rfl rfl (by kernel_rfl) Try.func3 (by kernel_rfl)
    (of_decide_eq_true (by kernel_rfl)) (by unfold Func.isWrapper; rw [if_neg (of_decide_eq_true (by kernel_rfl))]; exact ⟨rfl, rfl⟩)
    (fun os started H enc _ => lifted3 os started H enc)

end Go.Proofs.Ytpafnokcmhlbgaa
