/-
  StateAdd returns true: for every argument; no condition.
-/
import Derived.Test.YtkfniijfenkocaaVal
import Derived.Test.YtkfniijfenkocaaFn
import Derived.Test.YtkfniijfenkocaaRows
import Derived.JoinedOf
import Derived.JoinedAt
import Derived.ChangeSame
import Derived.JoinedCond
namespace Go.Proofs.Ytkfniijfenkocaa
open Go.Abs Go.ChangeShapes Go.WideShapes Go.ChangeAt
set_option maxRecDepth 100000

theorem args6 {rows : List (List Cell)} (h : ArgsOk E [23, 43] rows) : ∃ (c : List (List Cell)) (ap : Int) (np : Int) (tp : Int) (ep : List (List Cell)), rows = [[Cell.slice 43 c], [Cell.int .i64 ap, Cell.int .i64 np, Cell.int .i64 tp, Cell.slice 61 ep]] := by
  obtain ⟨r0, q0, rfl, k0_0, -, h⟩ := argsOk_cons (ks := [.slice 43]) h (by kernel_rfl)
  obtain ⟨r1, q1, rfl, k1_0, -, h⟩ := argsOk_cons (ks := [.int .i64, .int .i64, .int .i64, .slice 61]) h (by kernel_rfl)
  obtain rfl := argsOk_nil h
  obtain ⟨_, _, rfl, e0_0, k0_1⟩ := row_cons k0_0
  obtain ⟨c, rfl⟩ := kind_slice e0_0
  obtain rfl := row_nil k0_1
  obtain ⟨_, _, rfl, e1_0, k1_1⟩ := row_cons k1_0
  obtain ⟨ap, rfl⟩ := kind_int e1_0
  obtain ⟨_, _, rfl, e1_1, k1_2⟩ := row_cons k1_1
  obtain ⟨np, rfl⟩ := kind_int e1_1
  obtain ⟨_, _, rfl, e1_2, k1_3⟩ := row_cons k1_2
  obtain ⟨tp, rfl⟩ := kind_int e1_2
  obtain ⟨_, _, rfl, e1_3, k1_4⟩ := row_cons k1_3
  obtain ⟨ep, rfl⟩ := kind_slice e1_3
  obtain rfl := row_nil k1_4
  exact ⟨c, ap, np, tp, ep, rfl⟩

theorem lifted6 (os : Os) (started : os.Started) (H : Type) (enc : TypeId × Value → H) :
    ReturnsInHanded {} Try.checked os 6 .any (Rows.stateAddSpec.pre6 enc Try.prog Try.f6 Rows.stateAddRow.domain false) (Rows.stateAddSpec.post enc Try.prog Try.f6 false true false false) := by
  refine returnsInHanded_of_change (C := Try.checked) ownk started (by kernel_rfl) Try.func6
    (ChangeSpec.witness6 (enc := enc) (C := Try.checked) false ⟨#[], #[.slice none 0 0, .agg #[.int .i64 0, .int .i64 0, .int .i64 0, .slice none 0 0]], []⟩ 8 (by kernel_rfl) (by kernel_rfl) (by kernel_rfl) (by kernel_rfl)) ?_
  intro W base args ds gs before hval hW _ _
  refine contract (s := Rows.stateAddSpec) good mixed funcsOk (ts := [23, 43]) (tb := 4) (by kernel_rfl) (by kernel_rfl) (by kernel_rfl) rfl ?_ (by kernel_rfl) hval hW ?_
  · intro ds hd
    match ds, hd with
    | [_, _], _ => exact rfl
  · intro rows hr hbulk
    have hr' := hr
    obtain ⟨c, ap, np, tp, ep, rfl⟩ := args6 hr
    refine valid_run L6 valid6 6 _ _ _ ?_
    have h1 := arg_wf ((argsOk_wf hr').1 _ List.mem_cons_self)
    have h2 := okN_wf ((argsOk_wf (argsOk_wf hr').2).1 (.slice 61 ep) (by simp))
    have h3 : okArgE ep = true := decide_eq_true h2.2
    exact congrArg (fun b => (b, (([.one (.bool true)], []) : List AV × List Block))) (by rw [h1, h3]; rfl)

theorem proved6 : Rows.StateAddSaid :=
  OpenClaim.holds_of_wide 6 Try.f6 rfl rfl rfl rfl rfl rfl rfl ⟨rfl, rfl, rfl, rfl, rfl⟩ rfl rfl rfl rfl rfl (by kernel_rfl) Try.func6 (by kernel_rfl)
    (of_decide_eq_true (by kernel_rfl)) (by unfold Func.isWrapper; rw [if_neg (of_decide_eq_true (by kernel_rfl))]; exact ⟨rfl, rfl⟩)
    (fun os started H enc _ => lifted6 os started H enc)

end Go.Proofs.Ytkfniijfenkocaa
