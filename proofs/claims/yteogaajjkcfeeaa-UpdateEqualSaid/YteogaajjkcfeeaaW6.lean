/-
  UpdateEqual returns true: for every argument; no condition.
-/
import Derived.Test.YteogaajjkcfeeaaVal
import Derived.Test.YteogaajjkcfeeaaFn
import Derived.Test.YteogaajjkcfeeaaRows
import Derived.JoinedOf
import Derived.JoinedAt
import Derived.ChangeSame
import Derived.JoinedCond
namespace Go.Proofs.Yteogaajjkcfeeaa
open Go.Abs Go.ChangeShapes Go.WideShapes Go.ChangeAt
set_option maxRecDepth 100000

theorem args6 {rows : List (List Cell)} (h : ArgsOk E [30, 30] rows) : ∃ (cu : Int) (qu : Int) (tu : Int) (eu : List (List Cell)) (cv : Int) (qv : Int) (tv : Int) (ev : List (List Cell)), rows = [[Cell.int .i64 cu, Cell.int .i64 qu, Cell.int .i64 tu, Cell.slice 23 eu], [Cell.int .i64 cv, Cell.int .i64 qv, Cell.int .i64 tv, Cell.slice 23 ev]] := by
  obtain ⟨r0, q0, rfl, k0_0, -, h⟩ := argsOk_cons (ks := [.int .i64, .int .i64, .int .i64, .slice 23]) h (by kernel_rfl)
  obtain ⟨r1, q1, rfl, k1_0, -, h⟩ := argsOk_cons (ks := [.int .i64, .int .i64, .int .i64, .slice 23]) h (by kernel_rfl)
  obtain rfl := argsOk_nil h
  obtain ⟨_, _, rfl, e0_0, k0_1⟩ := row_cons k0_0
  obtain ⟨cu, rfl⟩ := kind_int e0_0
  obtain ⟨_, _, rfl, e0_1, k0_2⟩ := row_cons k0_1
  obtain ⟨qu, rfl⟩ := kind_int e0_1
  obtain ⟨_, _, rfl, e0_2, k0_3⟩ := row_cons k0_2
  obtain ⟨tu, rfl⟩ := kind_int e0_2
  obtain ⟨_, _, rfl, e0_3, k0_4⟩ := row_cons k0_3
  obtain ⟨eu, rfl⟩ := kind_slice e0_3
  obtain rfl := row_nil k0_4
  obtain ⟨_, _, rfl, e1_0, k1_1⟩ := row_cons k1_0
  obtain ⟨cv, rfl⟩ := kind_int e1_0
  obtain ⟨_, _, rfl, e1_1, k1_2⟩ := row_cons k1_1
  obtain ⟨qv, rfl⟩ := kind_int e1_1
  obtain ⟨_, _, rfl, e1_2, k1_3⟩ := row_cons k1_2
  obtain ⟨tv, rfl⟩ := kind_int e1_2
  obtain ⟨_, _, rfl, e1_3, k1_4⟩ := row_cons k1_3
  obtain ⟨ev, rfl⟩ := kind_slice e1_3
  obtain rfl := row_nil k1_4
  exact ⟨cu, qu, tu, eu, cv, qv, tv, ev, rfl⟩

theorem lifted6 (os : Os) (started : os.Started) (H : Type) (enc : TypeId × Value → H) :
    ReturnsInHanded {} Try.checked os 6 .any (Rows.updateEqualSpec.pre6 enc Try.prog Try.f6 Rows.updateEqualRow.domain false) (Rows.updateEqualSpec.post enc Try.prog Try.f6 false true false false) := by
  refine returnsInHanded_of_change (C := Try.checked) ownk started (by kernel_rfl) Try.func6
    (ChangeSpec.witness6 (enc := enc) (C := Try.checked) false ⟨#[], #[.agg #[.int .i64 0, .int .i64 0, .int .i64 0, .slice none 0 0], .agg #[.int .i64 0, .int .i64 0, .int .i64 0, .slice none 0 0]], []⟩ 8 (by kernel_rfl) (by kernel_rfl) (by kernel_rfl) (by kernel_rfl)) ?_
  intro W base args ds gs before hval hW _ _
  refine contract (s := Rows.updateEqualSpec) good mixed funcsOk (ts := [30, 30]) (tb := 4) (by kernel_rfl) (by kernel_rfl) (by kernel_rfl) rfl ?_ (by kernel_rfl) hval hW ?_
  · intro ds hd
    match ds, hd with
    | [_, _], _ => exact rfl
  · intro rows hr hbulk
    have hr' := hr
    obtain ⟨cu, qu, tu, eu, cv, qv, tv, ev, rfl⟩ := args6 hr
    refine valid_run L6 valid6 6 _ _ _ ?_
    rfl

theorem proved6 : Rows.UpdateEqualSaid :=
  OpenClaim.holds_of_wide 6 Try.f6 rfl rfl rfl rfl rfl rfl rfl ⟨rfl, rfl, rfl, rfl, rfl⟩ rfl rfl rfl rfl rfl (by kernel_rfl) Try.func6 (by kernel_rfl)
    (of_decide_eq_true (by kernel_rfl)) (by unfold Func.isWrapper; rw [if_neg (of_decide_eq_true (by kernel_rfl))]; exact ⟨rfl, rfl⟩)
    (fun os started H enc _ => lifted6 os started H enc)

end Go.Proofs.Yteogaajjkcfeeaa
