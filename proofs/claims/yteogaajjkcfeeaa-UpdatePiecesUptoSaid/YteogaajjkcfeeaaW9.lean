/-
  UpdatePieces returns true: for every argument whose bulk is at most 1048576.
-/
import Derived.Test.YteogaajjkcfeeaaVal2
import Derived.Test.YteogaajjkcfeeaaFn
import Derived.Test.YteogaajjkcfeeaaRows
import Derived.JoinedOf
import Derived.JoinedAt
import Derived.ChangeSame
import Derived.JoinedCond
namespace Go.Proofs.Yteogaajjkcfeeaa
open Go.Abs Go.ChangeShapes Go.WideShapes Go.ChangeAt
set_option maxRecDepth 100000

theorem args9 {rows : List (List Cell)} (h : ArgsOk E [42, 43] rows) : ∃ (l : List (List Cell)) (cut : Int), rows = [[Cell.slice 3 l], [Cell.int .u16 cut]] := by
  obtain ⟨r0, q0, rfl, k0_0, -, h⟩ := argsOk_cons (ks := [.slice 3]) h (by kernel_rfl)
  obtain ⟨r1, q1, rfl, k1_0, -, h⟩ := argsOk_cons (ks := [.int .u16]) h (by kernel_rfl)
  obtain rfl := argsOk_nil h
  obtain ⟨_, _, rfl, e0_0, k0_1⟩ := row_cons k0_0
  obtain ⟨l, rfl⟩ := kind_slice e0_0
  obtain rfl := row_nil k0_1
  obtain ⟨_, _, rfl, e1_0, k1_1⟩ := row_cons k1_0
  obtain ⟨cut, rfl⟩ := kind_int e1_0
  obtain rfl := row_nil k1_1
  exact ⟨l, cut, rfl⟩

theorem ubulk9 (H : Type) : Bulk (H := H) Rows.uptoBulk Rows.uptoBulkAll where
  int _ _ := by simp [Rows.uptoBulk]
  bool _ := by simp [Rows.uptoBulk]
  str _ := by simp [Rows.uptoBulk]
  nil := by simp [Rows.uptoBulk]
  slice _ _ := by simp only [Rows.uptoBulk]; omega
  agg _ := by simp only [Rows.uptoBulk]; omega
  cons _ _ := by simp only [Rows.uptoBulkAll]; omega

theorem lifted9 (os : Os) (started : os.Started) (H : Type) (enc : TypeId × Value → H) (F : Stop.Interp) :
    ReturnsInHanded {} Try.checked os 9 .any ((Rows.OpenSpec.upto Rows.updatePiecesSpec).pre6 enc Try.prog Try.f9 Rows.updatePiecesUptoRow.domain false) (((Rows.OpenSpec.upto Rows.updatePiecesSpec).at F).post enc Try.prog Try.f9 false true false false) := by
  refine returnsInHanded_of_cond (C := Try.checked) (s := Rows.OpenSpec.upto Rows.updatePiecesSpec) (k := Rows.uptoSmall) rfl ownk started (by kernel_rfl) Try.func9
    (OpenSpec.witness (enc := enc) (C := Try.checked) (s := Rows.OpenSpec.upto Rows.updatePiecesSpec) (k := Rows.uptoSmall) rfl false ⟨#[], #[.slice none 0 0, .int .u16 0], []⟩ 8 (by kernel_rfl) (by kernel_rfl) (by kernel_rfl)
      (x := ([.nil, .lit (.int .u16 0)], [], [])) (by kernel_rfl) rfl (by kernel_rfl)) ?_
  intro W base args ds gs before hval hW _ hk _
  have hk' : Rows.uptoBulkAll (ds ++ gs) ≤ 1048576 := of_decide_eq_true hk
  refine contract (s := Rows.updatePiecesSpec) good mixed funcsOk (ts := [42, 43]) (tb := 4) (by kernel_rfl) (by kernel_rfl) (by kernel_rfl) rfl ?_ (by kernel_rfl) hval hW ?_
  · intro ds hd
    match ds, hd with
    | [_, _], _ => exact rfl
  · intro rows hr hbulk
    have hr' := hr
    obtain ⟨l, cut, rfl⟩ := args9 hr
    have hb := Nat.le_trans (hbulk _ _ (ubulk9 H)) hk'
    refine valid_run L9 valid9 9 _ _ _ ?_
    have hw := (argsOk_wf hr').1 _ List.mem_cons_self
    have hl := len_bulk (k := .int .i64) (ks := []) (wf_slice (ks := [.int .i64]) hw (by kernel_rfl)).1
    have hc := wf_u16 ((argsOk_wf (argsOk_wf hr').2).1 _ List.mem_cons_self)
    simp only [bulkRs, bulkR, bulkC] at hb
    exact congrArg (fun b => (b, (([.one (.bool true)], []) : List AV × List Block))) (by simp only [Bool.and_eq_true, decide_eq_true_eq]; omega)

theorem proved9 : Rows.UpdatePiecesUptoSaid :=
  OpenClaim.holds_of_cond 9 Try.f9 rfl rfl rfl rfl rfl rfl rfl ⟨rfl, rfl, rfl, rfl, rfl⟩ rfl rfl rfl rfl rfl (by kernel_rfl) Try.func9 (by kernel_rfl)
    (of_decide_eq_true (by kernel_rfl)) (by unfold Func.isWrapper; rw [if_neg (of_decide_eq_true (by kernel_rfl))]; exact ⟨rfl, rfl⟩)
    (fun os started H enc _ F => lifted9 os started H enc F)

end Go.Proofs.Yteogaajjkcfeeaa
