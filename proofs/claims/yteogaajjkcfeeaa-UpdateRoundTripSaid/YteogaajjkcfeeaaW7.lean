/-
  UpdateRoundTrip returns true: for every argument; no condition.
-/
import Derived.Test.YteogaajjkcfeeaaVal2
import Derived.Test.YteogaajjkcfeeaaFn
import Derived.Test.YteogaajjkcfeeaaRows
import Derived.JoinedOf
import Derived.JoinedAt
import Derived.ChangeSame
import Derived.JoinedCond
namespace Go.Proofs.Yteogaajjkcfeeaa
open Go.Abs Go.ChangeShapes Go.WideShapes Go.ChangeAt
set_option maxRecDepth 100000

theorem args7 {rows : List (List Cell)} (h : ArgsOk E [30, 36] rows) : ∃ (cu : Int) (qu : Int) (tu : Int) (eu : List (List Cell)) (x : List (List Cell)), rows = [[Cell.int .i64 cu, Cell.int .i64 qu, Cell.int .i64 tu, Cell.slice 23 eu], [Cell.slice 5 x]] := by
  obtain ⟨r0, q0, rfl, k0_0, -, h⟩ := argsOk_cons (ks := [.int .i64, .int .i64, .int .i64, .slice 23]) h (by kernel_rfl)
  obtain ⟨r1, q1, rfl, k1_0, -, h⟩ := argsOk_cons (ks := [.slice 5]) h (by kernel_rfl)
  obtain rfl := argsOk_nil h
  obtain ⟨_, _, rfl, e0_0, k0_1⟩ := row_cons k0_0
  obtain ⟨cu, rfl⟩ := kind_int e0_0
  obtain ⟨_, _, rfl, e0_1, k0_2⟩ := row_cons k0_1
  obtain ⟨qu, rfl⟩ := kind_int e0_1
  obtain ⟨_, _, rfl, e0_2, k0_3⟩ := row_cons k0_2
  obtain ⟨tu, rfl⟩ := kind_int e0_2
  obtain ⟨_, _, rfl, e0_3, k0_4⟩ := row_cons k0_3
  obtain ⟨eu, rfl⟩ := kind_slice e0_3
  obtain rfl := row_nil k0_4
  obtain ⟨_, _, rfl, e1_0, k1_1⟩ := row_cons k1_0
  obtain ⟨x, rfl⟩ := kind_slice e1_0
  obtain rfl := row_nil k1_1
  exact ⟨cu, qu, tu, eu, x, rfl⟩

theorem lifted7 (os : Os) (started : os.Started) (H : Type) (enc : TypeId × Value → H) :
    ReturnsInHanded {} Try.checked os 7 .any (Rows.updateRoundTripSpec.pre6 enc Try.prog Try.f7 Rows.updateRoundTripRow.domain false) (Rows.updateRoundTripSpec.post enc Try.prog Try.f7 false true false false) := by
  refine returnsInHanded_of_change (C := Try.checked) ownk started (by kernel_rfl) Try.func7
    (ChangeSpec.witness6 (enc := enc) (C := Try.checked) false ⟨#[], #[.agg #[.int .i64 0, .int .i64 0, .int .i64 0, .slice none 0 0], .slice none 0 0], []⟩ 8 (by kernel_rfl) (by kernel_rfl) (by kernel_rfl) (by kernel_rfl)) ?_
  intro W base args ds gs before hval hW _ _
  refine contract (s := Rows.updateRoundTripSpec) good mixed funcsOk (ts := [30, 36]) (tb := 4) (by kernel_rfl) (by kernel_rfl) (by kernel_rfl) rfl ?_ (by kernel_rfl) hval hW ?_
  · intro ds hd
    match ds, hd with
    | [_, _], _ => exact rfl
  · intro rows hr hbulk
    have hr' := hr
    obtain ⟨cu, qu, tu, eu, x, rfl⟩ := args7 hr
    refine valid_run L7 valid7 7 _ _ _ ?_
    have h1 := okN_wf ((argsOk_wf hr').1 (.slice 23 eu) (by simp))
    have h2 := okB_wf ((argsOk_wf (argsOk_wf hr').2).1 _ List.mem_cons_self)
    exact congrArg (fun b => (b, (([.one (.bool true)], []) : List AV × List Block))) (by rw [h1, h2]; rfl)

theorem proved7 : Rows.UpdateRoundTripSaid :=
  OpenClaim.holds_of_wide 7 Try.f7 rfl rfl rfl rfl rfl rfl rfl ⟨rfl, rfl, rfl, rfl, rfl⟩ rfl rfl rfl rfl rfl (by kernel_rfl) Try.func7 (by kernel_rfl)
    (of_decide_eq_true (by kernel_rfl)) (by unfold Func.isWrapper; rw [if_neg (of_decide_eq_true (by kernel_rfl))]; exact ⟨rfl, rfl⟩)
    (fun os started H enc _ => lifted7 os started H enc)

end Go.Proofs.Yteogaajjkcfeeaa
