/-
  WalFailed returns true: for every argument; no condition.
-/
import Derived.Test.YtpafnokcmhlbgaaVal
import Derived.Test.YtpafnokcmhlbgaaFn
import Derived.Test.YtpafnokcmhlbgaaRows
import Derived.JoinedOf
import Derived.JoinedAt
import Derived.ChangeSame
import Derived.JoinedCond
namespace Go.Proofs.Ytpafnokcmhlbgaa
open Go.Abs Go.ChangeShapes Go.WideShapes Go.ChangeAt
set_option maxRecDepth 100000

theorem args10 {rows : List (List Cell)} (h : ArgsOk E [23, 3, 3] rows) : ∃ (r : List (List Cell)) (f : Int) (k : Int), rows = [[Cell.slice 22 r], [Cell.int .i64 f], [Cell.int .i64 k]] := by
  obtain ⟨r0, q0, rfl, k0_0, -, h⟩ := argsOk_cons (ks := [.slice 22]) h (by kernel_rfl)
  obtain ⟨r1, q1, rfl, k1_0, -, h⟩ := argsOk_cons (ks := [.int .i64]) h (by kernel_rfl)
  obtain ⟨r2, q2, rfl, k2_0, -, h⟩ := argsOk_cons (ks := [.int .i64]) h (by kernel_rfl)
  obtain rfl := argsOk_nil h
  obtain ⟨_, _, rfl, e0_0, k0_1⟩ := row_cons k0_0
  obtain ⟨r, rfl⟩ := kind_slice e0_0
  obtain rfl := row_nil k0_1
  obtain ⟨_, _, rfl, e1_0, k1_1⟩ := row_cons k1_0
  obtain ⟨f, rfl⟩ := kind_int e1_0
  obtain rfl := row_nil k1_1
  obtain ⟨_, _, rfl, e2_0, k2_1⟩ := row_cons k2_0
  obtain ⟨k, rfl⟩ := kind_int e2_0
  obtain rfl := row_nil k2_1
  exact ⟨r, f, k, rfl⟩

theorem lifted10 (os : Os) (started : os.Started) (H : Type) (enc : TypeId × Value → H) :
    ReturnsInHanded {} Try.checked os 10 .any (Rows.walFailedSpec.pre6 enc Try.prog Try.f10 Rows.walFailedRow.domain false) (Rows.walFailedSpec.post enc Try.prog Try.f10 false true false false) := by
  refine returnsInHanded_of_change (C := Try.checked) ownk started (by kernel_rfl) Try.func10
    (ChangeSpec.witness6 (enc := enc) (C := Try.checked) false ⟨#[], #[.slice none 0 0, .int .i64 0, .int .i64 0], []⟩ 8 (by kernel_rfl) (by kernel_rfl) (by kernel_rfl) (by kernel_rfl)) ?_
  intro W base args ds gs before hval hW _ _
  refine contract (s := Rows.walFailedSpec) good mixed funcsOk (ts := [23, 3, 3]) (tb := 4) (by kernel_rfl) (by kernel_rfl) (by kernel_rfl) rfl ?_ (by kernel_rfl) hval hW ?_
  · intro ds hd
    match ds, hd with
    | [_, _, _], _ => exact rfl
  · intro rows hr hbulk
    have hr' := hr
    obtain ⟨r, f, k, rfl⟩ := args10 hr
    refine valid_run L10 valid10 10 _ _ _ ?_
    exact congrArg (fun b => (b, (([.one (.bool true)], []) : List AV × List Block))) (arg_wf ((argsOk_wf hr').1 _ List.mem_cons_self))

theorem proved10 : Rows.WalFailedSaid :=
  OpenClaim.holds_of_wide 10 Try.f10 rfl rfl rfl rfl rfl rfl rfl ⟨rfl, rfl, rfl, rfl, rfl⟩ rfl rfl rfl rfl rfl (by kernel_rfl) Try.func10 (by kernel_rfl)
    (of_decide_eq_true (by kernel_rfl)) (by unfold Func.isWrapper; rw [if_neg (of_decide_eq_true (by kernel_rfl))]; exact ⟨rfl, rfl⟩)
    (fun os started H enc _ => lifted10 os started H enc)

end Go.Proofs.Ytpafnokcmhlbgaa
