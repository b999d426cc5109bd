/-
  UpdateCompare returns true: for every argument; no condition.
-/
import Derived.Test.YteogaajjkcfeeaaVal
import Derived.Test.YteogaajjkcfeeaaFn
import Derived.Test.YteogaajjkcfeeaaRows
import Derived.JoinedOf
import Derived.JoinedAt
import Derived.ChangeSame
import Derived.JoinedCond
namespace Go.Proofs.Yteogaajjkcfeeaa
open Go.Abs Go.ChangeShapes Go.WideShapes Go.ChangeAt
set_option maxRecDepth 100000

theorem args5 {rows : List (List Cell)} (h : ArgsOk E [30, 30, 30] rows) : ∃ (cu : Int) (qu : Int) (tu : Int) (eu : List (List Cell)) (cv : Int) (qv : Int) (tv : Int) (ev : List (List Cell)) (cw : Int) (qw : Int) (tw : Int) (ew : List (List Cell)), rows = [[Cell.int .i64 cu, Cell.int .i64 qu, Cell.int .i64 tu, Cell.slice 23 eu], [Cell.int .i64 cv, Cell.int .i64 qv, Cell.int .i64 tv, Cell.slice 23 ev], [Cell.int .i64 cw, Cell.int .i64 qw, Cell.int .i64 tw, Cell.slice 23 ew]] := by
  obtain ⟨r0, q0, rfl, k0_0, -, h⟩ := argsOk_cons (ks := [.int .i64, .int .i64, .int .i64, .slice 23]) h (by kernel_rfl)
  obtain ⟨r1, q1, rfl, k1_0, -, h⟩ := argsOk_cons (ks := [.int .i64, .int .i64, .int .i64, .slice 23]) h (by kernel_rfl)
  obtain ⟨r2, q2, rfl, k2_0, -, h⟩ := argsOk_cons (ks := [.int .i64, .int .i64, .int .i64, .slice 23]) h (by kernel_rfl)
  obtain rfl := argsOk_nil h
  obtain ⟨_, _, rfl, e0_0, k0_1⟩ := row_cons k0_0
  obtain ⟨cu, rfl⟩ := kind_int e0_0
  obtain ⟨_, _, rfl, e0_1, k0_2⟩ := row_cons k0_1
  obtain ⟨qu, rfl⟩ := kind_int e0_1
  obtain ⟨_, _, rfl, e0_2, k0_3⟩ := row_cons k0_2
  obtain ⟨tu, rfl⟩ := kind_int e0_2
  obtain ⟨_, _, rfl, e0_3, k0_4⟩ := row_cons k0_3
  obtain ⟨eu, rfl⟩ := kind_slice e0_3
  obtain rfl := row_nil k0_4
  obtain ⟨_, _, rfl, e1_0, k1_1⟩ := row_cons k1_0
  obtain ⟨cv, rfl⟩ := kind_int e1_0
  obtain ⟨_, _, rfl, e1_1, k1_2⟩ := row_cons k1_1
  obtain ⟨qv, rfl⟩ := kind_int e1_1
  obtain ⟨_, _, rfl, e1_2, k1_3⟩ := row_cons k1_2
  obtain ⟨tv, rfl⟩ := kind_int e1_2
  obtain ⟨_, _, rfl, e1_3, k1_4⟩ := row_cons k1_3
  obtain ⟨ev, rfl⟩ := kind_slice e1_3
  obtain rfl := row_nil k1_4
  obtain ⟨_, _, rfl, e2_0, k2_1⟩ := row_cons k2_0
  obtain ⟨cw, rfl⟩ := kind_int e2_0
  obtain ⟨_, _, rfl, e2_1, k2_2⟩ := row_cons k2_1
  obtain ⟨qw, rfl⟩ := kind_int e2_1
  obtain ⟨_, _, rfl, e2_2, k2_3⟩ := row_cons k2_2
  obtain ⟨tw, rfl⟩ := kind_int e2_2
  obtain ⟨_, _, rfl, e2_3, k2_4⟩ := row_cons k2_3
  obtain ⟨ew, rfl⟩ := kind_slice e2_3
  obtain rfl := row_nil k2_4
  exact ⟨cu, qu, tu, eu, cv, qv, tv, ev, cw, qw, tw, ew, rfl⟩

theorem lifted5 (os : Os) (started : os.Started) (H : Type) (enc : TypeId × Value → H) :
    ReturnsInHanded {} Try.checked os 5 .any (Rows.updateCompareSpec.pre6 enc Try.prog Try.f5 Rows.updateCompareRow.domain false) (Rows.updateCompareSpec.post enc Try.prog Try.f5 false true false false) := by
  refine returnsInHanded_of_change (C := Try.checked) ownk started (by kernel_rfl) Try.func5
    (ChangeSpec.witness6 (enc := enc) (C := Try.checked) false ⟨#[], #[.agg #[.int .i64 0, .int .i64 0, .int .i64 0, .slice none 0 0], .agg #[.int .i64 0, .int .i64 0, .int .i64 0, .slice none 0 0], .agg #[.int .i64 0, .int .i64 0, .int .i64 0, .slice none 0 0]], []⟩ 8 (by kernel_rfl) (by kernel_rfl) (by kernel_rfl) (by kernel_rfl)) ?_
  intro W base args ds gs before hval hW _ _
  refine contract (s := Rows.updateCompareSpec) good mixed funcsOk (ts := [30, 30, 30]) (tb := 4) (by kernel_rfl) (by kernel_rfl) (by kernel_rfl) rfl ?_ (by kernel_rfl) hval hW ?_
  · intro ds hd
    match ds, hd with
    | [_, _, _], _ => exact rfl
  · intro rows hr hbulk
    have hr' := hr
    obtain ⟨cu, qu, tu, eu, cv, qv, tv, ev, cw, qw, tw, ew, rfl⟩ := args5 hr
    refine valid_run L5 valid5 5 _ _ _ ?_
    rfl

theorem proved5 : Rows.UpdateCompareSaid :=
  OpenClaim.holds_of_wide 5 Try.f5 rfl rfl rfl rfl rfl rfl rfl ⟨rfl, rfl, rfl, rfl, rfl⟩ rfl rfl rfl rfl rfl (by kernel_rfl) Try.func5 (by kernel_rfl)
    (of_decide_eq_true (by kernel_rfl)) (by unfold Func.isWrapper; rw [if_neg (of_decide_eq_true (by kernel_rfl))]; exact ⟨rfl, rfl⟩)
    (fun os started H enc _ => lifted5 os started H enc)

end Go.Proofs.Yteogaajjkcfeeaa
