/-
  ProposalChange returns true: for every argument; no condition.
-/
import Derived.Test.YtaafnpmijncpeaaVal
import Derived.Test.YtaafnpmijncpeaaFn
import Derived.Test.YtaafnpmijncpeaaRows
import Derived.JoinedOf
import Derived.JoinedAt
import Derived.ChangeSame
namespace Go.Proofs.Ytaafnpmijncpeaa
open Go.Abs Go.ChangeShapes Go.WideShapes Go.ChangeAt
set_option maxRecDepth 100000

theorem args3 {rows : List (List Cell)} (h : ArgsOk E [25] rows) : ∃ (k : Int) (s : Int) (w : Int) (v : Int) (rk : Int) (rc : Int) (rf : Int), rows = [[Cell.int .i64 k, Cell.int .i64 s, Cell.int .i64 w, Cell.int .i64 v, Cell.int .i64 rk, Cell.int .i64 rc, Cell.int .i64 rf]] := by
  obtain ⟨r0, q0, rfl, k0_0, -, h⟩ := argsOk_cons (ks := [.int .i64, .int .i64, .int .i64, .int .i64, .int .i64, .int .i64, .int .i64]) h (by kernel_rfl)
  obtain rfl := argsOk_nil h
  obtain ⟨_, _, rfl, e0_0, k0_1⟩ := row_cons k0_0
  obtain ⟨k, rfl⟩ := kind_int e0_0
  obtain ⟨_, _, rfl, e0_1, k0_2⟩ := row_cons k0_1
  obtain ⟨s, rfl⟩ := kind_int e0_1
  obtain ⟨_, _, rfl, e0_2, k0_3⟩ := row_cons k0_2
  obtain ⟨w, rfl⟩ := kind_int e0_2
  obtain ⟨_, _, rfl, e0_3, k0_4⟩ := row_cons k0_3
  obtain ⟨v, rfl⟩ := kind_int e0_3
  obtain ⟨_, _, rfl, e0_4, k0_5⟩ := row_cons k0_4
  obtain ⟨rk, rfl⟩ := kind_int e0_4
  obtain ⟨_, _, rfl, e0_5, k0_6⟩ := row_cons k0_5
  obtain ⟨rc, rfl⟩ := kind_int e0_5
  obtain ⟨_, _, rfl, e0_6, k0_7⟩ := row_cons k0_6
  obtain ⟨rf, rfl⟩ := kind_int e0_6
  obtain rfl := row_nil k0_7
  exact ⟨k, s, w, v, rk, rc, rf, rfl⟩

theorem lifted3 (os : Os) (started : os.Started) (H : Type) (enc : TypeId × Value → H) :
    ReturnsInHanded {} Try.checked os 3 .any (Rows.proposalChangeSpec.pre6 enc Try.prog Try.f3 Rows.proposalChangeRow.domain false) (Rows.proposalChangeSpec.post enc Try.prog Try.f3 false true false false) := by
  refine returnsInHanded_of_change (C := Try.checked) ownk started (by kernel_rfl) Try.func3
    (ChangeSpec.witness6 (enc := enc) (C := Try.checked) false ⟨#[], #[.agg #[.int .i64 0, .int .i64 0, .int .i64 0, .int .i64 0, .int .i64 0, .int .i64 0, .int .i64 0]], []⟩ 8 (by kernel_rfl) (by kernel_rfl) (by kernel_rfl) (by kernel_rfl)) ?_
  intro W base args ds gs before hval hW _ _
  refine contract good mixed funcsOk (ts := [25]) (tb := 4) (by kernel_rfl) (by kernel_rfl) (by kernel_rfl) rfl ?_ (by kernel_rfl) hval hW ?_
  · intro ds hd
    match ds, hd with
    | [_], _ => exact rfl
  · intro rows hr _
    have hr' := hr
    obtain ⟨k, s, w, v, rk, rc, rf, rfl⟩ := args3 hr
    refine valid_run L3 valid3 3 _ _ _ ?_
    rfl

theorem proved3 : Rows.ProposalChangeSaid :=
  OpenClaim.holds_of_wide 3 Try.f3 rfl rfl rfl rfl rfl rfl rfl ⟨rfl, rfl, rfl, rfl, rfl⟩ rfl rfl rfl rfl rfl (by kernel_rfl) Try.func3 (by kernel_rfl)
    (of_decide_eq_true (by kernel_rfl)) (by unfold Func.isWrapper; rw [if_neg (of_decide_eq_true (by kernel_rfl))]; exact ⟨rfl, rfl⟩)
    (fun os started H enc _ => lifted3 os started H enc)

end Go.Proofs.Ytaafnpmijncpeaa
