/-
  MessageDecode returns true: for every argument; no condition.
-/
import Derived.Test.YtejimgikldiajaaGreatZW3
import Derived.Test.YtejimgikldiajaaGreatRows
import Derived.JoinedOf
import Derived.JoinedAt
import Derived.ChangeSame
import Derived.JoinedCond
namespace Go.Proofs.YtejimgikldiajaaGreat
open Go.Abs Go.ChangeShapes Go.WideShapes Go.ChangeAt
set_option maxRecDepth 100000

theorem args4 {rows : List (List Cell)} (h : ArgsOk E [38] rows) : ∃ (x : List (List Cell)), rows = [[Cell.slice 5 x]] := by
  obtain ⟨r0, q0, rfl, k0_0, -, h⟩ := argsOk_cons (ks := [.slice 5]) h (by kernel_rfl)
  obtain rfl := argsOk_nil h
  obtain ⟨_, _, rfl, e0_0, k0_1⟩ := row_cons k0_0
  obtain ⟨x, rfl⟩ := kind_slice e0_0
  obtain rfl := row_nil k0_1
  exact ⟨x, rfl⟩

theorem lifted4 (os : Os) (started : os.Started) (H : Type) (enc : TypeId × Value → H) :
    ReturnsInHanded {} Tryz.checked os 4 .any (Rows.messageDecodeSpec.pre6 enc Tryz.prog Tryz.f4 Rows.messageDecodeRow.domain false) (Rows.messageDecodeSpec.post enc Tryz.prog Tryz.f4 false true false false) := by
  refine returnsInHanded_of_change (C := Tryz.checked) ownk started (by kernel_rfl) Tryz.func4
    (ChangeSpec.witness6 (enc := enc) (C := Tryz.checked) false ⟨#[], #[.slice none 0 0], []⟩ 8 (by kernel_rfl) (by kernel_rfl) (by kernel_rfl) (by kernel_rfl)) ?_
  intro W base args ds gs before hval hW _ _
  refine contract (s := Rows.messageDecodeSpec) good mixed funcsOk (ts := [38]) (tb := 4) (by kernel_rfl) (by kernel_rfl) (by kernel_rfl) rfl ?_ (by kernel_rfl) hval hW ?_
  · intro ds hd
    match ds, hd with
    | [_], _ => exact rfl
  · intro rows hr hbulk
    have hr' := hr
    obtain ⟨x, rfl⟩ := args4 hr
    refine valid_run L4 valid4 4 _ _ _ ?_
    exact congrArg (fun b => (b, (([.one (.bool true)], []) : List AV × List Block))) (okB_wf ((argsOk_wf hr').1 _ List.mem_cons_self))

theorem proved4 : Rows.MessageDecodeSaid :=
  OpenClaim.holds_of_wide 4 Tryz.f4 rfl rfl rfl rfl rfl rfl rfl ⟨rfl, rfl, rfl, rfl, rfl⟩ rfl rfl rfl rfl rfl (by kernel_rfl) Tryz.func4 (by kernel_rfl)
    (of_decide_eq_true (by kernel_rfl)) (by unfold Func.isWrapper; rw [if_neg (of_decide_eq_true (by kernel_rfl))]; exact ⟨rfl, rfl⟩)
    (fun os started H enc _ => lifted4 os started H enc)

end Go.Proofs.YtejimgikldiajaaGreat
