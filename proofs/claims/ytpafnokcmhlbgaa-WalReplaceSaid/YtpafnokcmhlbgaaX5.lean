/-
  WalReplace returns true: for every argument; no condition.
-/
import Derived.Test.YtpafnokcmhlbgaaVal
import Derived.Test.YtpafnokcmhlbgaaFn
import Derived.Test.YtpafnokcmhlbgaaRows
import Derived.JoinedOf
import Derived.JoinedAt
import Derived.ChangeSame
import Derived.JoinedCond
namespace Go.Proofs.Ytpafnokcmhlbgaa
open Go.Abs Go.ChangeShapes Go.WideShapes Go.ChangeAt
set_option maxRecDepth 100000

theorem args5 {rows : List (List Cell)} (h : ArgsOk E [23, 23] rows) : ∃ (r : List (List Cell)) (t : List (List Cell)), rows = [[Cell.slice 22 r], [Cell.slice 22 t]] := by
  obtain ⟨r0, q0, rfl, k0_0, -, h⟩ := argsOk_cons (ks := [.slice 22]) h (by kernel_rfl)
  obtain ⟨r1, q1, rfl, k1_0, -, h⟩ := argsOk_cons (ks := [.slice 22]) h (by kernel_rfl)
  obtain rfl := argsOk_nil h
  obtain ⟨_, _, rfl, e0_0, k0_1⟩ := row_cons k0_0
  obtain ⟨r, rfl⟩ := kind_slice e0_0
  obtain rfl := row_nil k0_1
  obtain ⟨_, _, rfl, e1_0, k1_1⟩ := row_cons k1_0
  obtain ⟨t, rfl⟩ := kind_slice e1_0
  obtain rfl := row_nil k1_1
  exact ⟨r, t, rfl⟩

theorem lifted5 (os : Os) (started : os.Started) (H : Type) (enc : TypeId × Value → H) :
    ReturnsInHanded {} Try.checked os 5 .any (Rows.walReplaceSpec.pre6 enc Try.prog Try.f5 Rows.walReplaceRow.domain false) (Rows.walReplaceSpec.post enc Try.prog Try.f5 false true false false) := by
  refine returnsInHanded_of_change (C := Try.checked) ownk started (by kernel_rfl) Try.func5
    (ChangeSpec.witness6 (enc := enc) (C := Try.checked) false ⟨#[], #[.slice none 0 0, .slice none 0 0], []⟩ 8 (by kernel_rfl) (by kernel_rfl) (by kernel_rfl) (by kernel_rfl)) ?_
  intro W base args ds gs before hval hW _ _
  refine contract (s := Rows.walReplaceSpec) good mixed funcsOk (ts := [23, 23]) (tb := 4) (by kernel_rfl) (by kernel_rfl) (by kernel_rfl) rfl ?_ (by kernel_rfl) hval hW ?_
  · intro ds hd
    match ds, hd with
    | [_, _], _ => exact rfl
  · intro rows hr hbulk
    have hr' := hr
    obtain ⟨r, t, rfl⟩ := args5 hr
    refine valid_run L5 valid5 5 _ _ _ ?_
    have h1 := arg_wf ((argsOk_wf hr').1 _ List.mem_cons_self)
    have h2 := arg_wf ((argsOk_wf (argsOk_wf hr').2).1 _ List.mem_cons_self)
    exact congrArg (fun b => (b, (([.one (.bool true)], []) : List AV × List Block))) (by rw [h1, h2]; rfl)

theorem proved5 : Rows.WalReplaceSaid :=
  OpenClaim.holds_of_wide 5 Try.f5 rfl rfl rfl rfl rfl rfl rfl ⟨rfl, rfl, rfl, rfl, rfl⟩ rfl rfl rfl rfl rfl (by kernel_rfl) Try.func5 (by kernel_rfl)
    (of_decide_eq_true (by kernel_rfl)) (by unfold Func.isWrapper; rw [if_neg (of_decide_eq_true (by kernel_rfl))]; exact ⟨rfl, rfl⟩)
    (fun os started H enc _ => lifted5 os started H enc)

end Go.Proofs.Ytpafnokcmhlbgaa
