/-
  UpdateEffect returns true: for every argument; no condition.
-/
import Derived.Test.YteogaajjkcfeeaaVal
import Derived.Test.YteogaajjkcfeeaaFn
import Derived.Test.YteogaajjkcfeeaaRows
import Derived.JoinedOf
import Derived.JoinedAt
import Derived.ChangeSame
import Derived.JoinedCond
namespace Go.Proofs.Yteogaajjkcfeeaa
open Go.Abs Go.ChangeShapes Go.WideShapes Go.ChangeAt
set_option maxRecDepth 100000

theorem args3 {rows : List (List Cell)} (h : ArgsOk E [23] rows) : ∃ (k1 : Int) (o1 : List UInt8) (f1 : List UInt8) (n1 : Int) (s1 : List UInt8), rows = [[Cell.int .i64 k1, Cell.str o1, Cell.str f1, Cell.int .i64 n1, Cell.str s1]] := by
  obtain ⟨r0, q0, rfl, k0_0, -, h⟩ := argsOk_cons (ks := [.int .i64, .str, .str, .int .i64, .str]) h (by kernel_rfl)
  obtain rfl := argsOk_nil h
  obtain ⟨_, _, rfl, e0_0, k0_1⟩ := row_cons k0_0
  obtain ⟨k1, rfl⟩ := kind_int e0_0
  obtain ⟨_, _, rfl, e0_1, k0_2⟩ := row_cons k0_1
  obtain ⟨o1, rfl⟩ := kind_str e0_1
  obtain ⟨_, _, rfl, e0_2, k0_3⟩ := row_cons k0_2
  obtain ⟨f1, rfl⟩ := kind_str e0_2
  obtain ⟨_, _, rfl, e0_3, k0_4⟩ := row_cons k0_3
  obtain ⟨n1, rfl⟩ := kind_int e0_3
  obtain ⟨_, _, rfl, e0_4, k0_5⟩ := row_cons k0_4
  obtain ⟨s1, rfl⟩ := kind_str e0_4
  obtain rfl := row_nil k0_5
  exact ⟨k1, o1, f1, n1, s1, rfl⟩

theorem lifted3 (os : Os) (started : os.Started) (H : Type) (enc : TypeId × Value → H) :
    ReturnsInHanded {} Try.checked os 3 .any (Rows.updateEffectSpec.pre6 enc Try.prog Try.f3 Rows.updateEffectRow.domain false) (Rows.updateEffectSpec.post enc Try.prog Try.f3 false true false false) := by
  refine returnsInHanded_of_change (C := Try.checked) ownk started (by kernel_rfl) Try.func3
    (ChangeSpec.witness6 (enc := enc) (C := Try.checked) false ⟨#[], #[.agg #[.int .i64 0, .string .empty, .string .empty, .int .i64 0, .string .empty]], []⟩ 8 (by kernel_rfl) (by kernel_rfl) (by kernel_rfl) (by kernel_rfl)) ?_
  intro W base args ds gs before hval hW _ _
  refine contract (s := Rows.updateEffectSpec) good mixed funcsOk (ts := [23]) (tb := 4) (by kernel_rfl) (by kernel_rfl) (by kernel_rfl) rfl ?_ (by kernel_rfl) hval hW ?_
  · intro ds hd
    match ds, hd with
    | [_], _ => exact rfl
  · intro rows hr hbulk
    have hr' := hr
    obtain ⟨k1, o1, f1, n1, s1, rfl⟩ := args3 hr
    refine valid_run L3 valid3 3 _ _ _ ?_
    rfl

theorem proved3 : Rows.UpdateEffectSaid :=
  OpenClaim.holds_of_wide 3 Try.f3 rfl rfl rfl rfl rfl rfl rfl ⟨rfl, rfl, rfl, rfl, rfl⟩ rfl rfl rfl rfl rfl (by kernel_rfl) Try.func3 (by kernel_rfl)
    (of_decide_eq_true (by kernel_rfl)) (by unfold Func.isWrapper; rw [if_neg (of_decide_eq_true (by kernel_rfl))]; exact ⟨rfl, rfl⟩)
    (fun os started H enc _ => lifted3 os started H enc)

end Go.Proofs.Yteogaajjkcfeeaa
