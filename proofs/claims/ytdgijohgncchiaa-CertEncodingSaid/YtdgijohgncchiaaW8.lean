/-
  CertEncoding returns true: for every argument; no condition.
-/
import Derived.Test.YtdgijohgncchiaaVal
import Derived.Test.YtdgijohgncchiaaFn
import Derived.Test.YtdgijohgncchiaaRows
import Derived.JoinedOf
import Derived.JoinedAt
import Derived.ChangeSame
import Derived.JoinedCond
namespace Go.Proofs.Ytdgijohgncchiaa
open Go.Abs Go.ChangeShapes Go.WideShapes Go.ChangeAt
set_option maxRecDepth 100000

theorem args8 {rows : List (List Cell)} (h : ArgsOk E [25, 42] rows) : ∃ (f1 : List (List Cell)) (t1 : List (List Cell)) (x : List (List Cell)), rows = [[Cell.slice 53 f1, Cell.slice 53 t1], [Cell.slice 5 x]] := by
  obtain ⟨r0, q0, rfl, k0_0, -, h⟩ := argsOk_cons (ks := [.slice 53, .slice 53]) h (by kernel_rfl)
  obtain ⟨r1, q1, rfl, k1_0, -, h⟩ := argsOk_cons (ks := [.slice 5]) h (by kernel_rfl)
  obtain rfl := argsOk_nil h
  obtain ⟨_, _, rfl, e0_0, k0_1⟩ := row_cons k0_0
  obtain ⟨f1, rfl⟩ := kind_slice e0_0
  obtain ⟨_, _, rfl, e0_1, k0_2⟩ := row_cons k0_1
  obtain ⟨t1, rfl⟩ := kind_slice e0_1
  obtain rfl := row_nil k0_2
  obtain ⟨_, _, rfl, e1_0, k1_1⟩ := row_cons k1_0
  obtain ⟨x, rfl⟩ := kind_slice e1_0
  obtain rfl := row_nil k1_1
  exact ⟨f1, t1, x, rfl⟩

theorem lifted8 (os : Os) (started : os.Started) (H : Type) (enc : TypeId × Value → H) :
    ReturnsInHanded {} Try.checked os 8 .any (Rows.certEncodingSpec.pre6 enc Try.prog Try.f8 Rows.certEncodingRow.domain false) (Rows.certEncodingSpec.post enc Try.prog Try.f8 false true false false) := by
  refine returnsInHanded_of_change (C := Try.checked) ownk started (by kernel_rfl) Try.func8
    (ChangeSpec.witness6 (enc := enc) (C := Try.checked) false ⟨#[], #[.agg #[.slice none 0 0, .slice none 0 0], .slice none 0 0], []⟩ 8 (by kernel_rfl) (by kernel_rfl) (by kernel_rfl) (by kernel_rfl)) ?_
  intro W base args ds gs before hval hW _ _
  refine contract (s := Rows.certEncodingSpec) good mixed funcsOk (ts := [25, 42]) (tb := 4) (by kernel_rfl) (by kernel_rfl) (by kernel_rfl) rfl ?_ (by kernel_rfl) hval hW ?_
  · intro ds hd
    match ds, hd with
    | [_, _], _ => exact rfl
  · intro rows hr hbulk
    have hr' := hr
    obtain ⟨f1, t1, x, rfl⟩ := args8 hr
    refine valid_run L8 valid8 8 _ _ _ ?_
    have hw := (argsOk_wf hr').1
    have h1 := arg_wf (hw (.slice 53 f1) (by simp))
    have h2 := arg_wf (hw (.slice 53 t1) (by simp))
    have h1 := (okArg_of h1).2
    have h2 := (okArg_of h2).2
    have h3 := okB_wf ((argsOk_wf (argsOk_wf hr').2).1 _ List.mem_cons_self)
    exact congrArg (fun b => (b, (([.one (.bool true)], []) : List AV × List Block))) (by rw [h1, h2, h3]; rfl)

theorem proved8 : Rows.CertEncodingSaid :=
  OpenClaim.holds_of_wide 8 Try.f8 rfl rfl rfl rfl rfl rfl rfl ⟨rfl, rfl, rfl, rfl, rfl⟩ rfl rfl rfl rfl rfl (by kernel_rfl) Try.func8 (by kernel_rfl)
    (of_decide_eq_true (by kernel_rfl)) (by unfold Func.isWrapper; rw [if_neg (of_decide_eq_true (by kernel_rfl))]; exact ⟨rfl, rfl⟩)
    (fun os started H enc _ => lifted8 os started H enc)

end Go.Proofs.Ytdgijohgncchiaa
