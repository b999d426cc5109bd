/-
  StateDecode returns true: for every argument; no condition.
-/
import Derived.Test.YtkfniijfenkocaaVal
import Derived.Test.YtkfniijfenkocaaFn
import Derived.Test.YtkfniijfenkocaaRows
import Derived.JoinedOf
import Derived.JoinedAt
import Derived.ChangeSame
import Derived.JoinedCond
namespace Go.Proofs.Ytkfniijfenkocaa
open Go.Abs Go.ChangeShapes Go.WideShapes Go.ChangeAt
set_option maxRecDepth 100000

theorem args10 {rows : List (List Cell)} (h : ArgsOk E [54] rows) : ∃ (x : List (List Cell)), rows = [[Cell.slice 5 x]] := by
  obtain ⟨r0, q0, rfl, k0_0, -, h⟩ := argsOk_cons (ks := [.slice 5]) h (by kernel_rfl)
  obtain rfl := argsOk_nil h
  obtain ⟨_, _, rfl, e0_0, k0_1⟩ := row_cons k0_0
  obtain ⟨x, rfl⟩ := kind_slice e0_0
  obtain rfl := row_nil k0_1
  exact ⟨x, rfl⟩

theorem lifted10 (os : Os) (started : os.Started) (H : Type) (enc : TypeId × Value → H) :
    ReturnsInHanded {} Try.checked os 10 .any (Rows.stateDecodeSpec.pre6 enc Try.prog Try.f10 Rows.stateDecodeRow.domain false) (Rows.stateDecodeSpec.post enc Try.prog Try.f10 false true false false) := by
  refine returnsInHanded_of_change (C := Try.checked) ownk started (by kernel_rfl) Try.func10
    (ChangeSpec.witness6 (enc := enc) (C := Try.checked) false ⟨#[], #[.slice none 0 0], []⟩ 8 (by kernel_rfl) (by kernel_rfl) (by kernel_rfl) (by kernel_rfl)) ?_
  intro W base args ds gs before hval hW _ _
  refine contract (s := Rows.stateDecodeSpec) good mixed funcsOk (ts := [54]) (tb := 4) (by kernel_rfl) (by kernel_rfl) (by kernel_rfl) rfl ?_ (by kernel_rfl) hval hW ?_
  · intro ds hd
    match ds, hd with
    | [_], _ => exact rfl
  · intro rows hr hbulk
    have hr' := hr
    obtain ⟨x, rfl⟩ := args10 hr
    refine valid_run L10 valid10 10 _ _ _ ?_
    exact congrArg (fun b => (b, (([.one (.bool true)], []) : List AV × List Block))) (okB_wf ((argsOk_wf hr').1 _ List.mem_cons_self))

theorem proved10 : Rows.StateDecodeSaid :=
  OpenClaim.holds_of_wide 10 Try.f10 rfl rfl rfl rfl rfl rfl rfl ⟨rfl, rfl, rfl, rfl, rfl⟩ rfl rfl rfl rfl rfl (by kernel_rfl) Try.func10 (by kernel_rfl)
    (of_decide_eq_true (by kernel_rfl)) (by unfold Func.isWrapper; rw [if_neg (of_decide_eq_true (by kernel_rfl))]; exact ⟨rfl, rfl⟩)
    (fun os started H enc _ => lifted10 os started H enc)

end Go.Proofs.Ytkfniijfenkocaa
