/-
  StateTransfer returns true: for every argument whose bulk is at most 1048576.
-/
import Derived.Test.YtkfniijfenkocaaVal2
import Derived.Test.YtkfniijfenkocaaFn
import Derived.Test.YtkfniijfenkocaaRows
import Derived.JoinedOf
import Derived.JoinedAt
import Derived.ChangeSame
import Derived.JoinedCond
namespace Go.Proofs.Ytkfniijfenkocaa
open Go.Abs Go.ChangeShapes Go.WideShapes Go.ChangeAt
set_option maxRecDepth 100000

theorem args8 {rows : List (List Cell)} (h : ArgsOk E [36, 3, 3, 3] rows) : ∃ (l : List (List Cell)) (x : Int) (y : Int) (k : Int), rows = [[Cell.slice 3 l], [Cell.int .i64 x], [Cell.int .i64 y], [Cell.int .i64 k]] := by
  obtain ⟨r0, q0, rfl, k0_0, -, h⟩ := argsOk_cons (ks := [.slice 3]) h (by kernel_rfl)
  obtain ⟨r1, q1, rfl, k1_0, -, h⟩ := argsOk_cons (ks := [.int .i64]) h (by kernel_rfl)
  obtain ⟨r2, q2, rfl, k2_0, -, h⟩ := argsOk_cons (ks := [.int .i64]) h (by kernel_rfl)
  obtain ⟨r3, q3, rfl, k3_0, -, h⟩ := argsOk_cons (ks := [.int .i64]) h (by kernel_rfl)
  obtain rfl := argsOk_nil h
  obtain ⟨_, _, rfl, e0_0, k0_1⟩ := row_cons k0_0
  obtain ⟨l, rfl⟩ := kind_slice e0_0
  obtain rfl := row_nil k0_1
  obtain ⟨_, _, rfl, e1_0, k1_1⟩ := row_cons k1_0
  obtain ⟨x, rfl⟩ := kind_int e1_0
  obtain rfl := row_nil k1_1
  obtain ⟨_, _, rfl, e2_0, k2_1⟩ := row_cons k2_0
  obtain ⟨y, rfl⟩ := kind_int e2_0
  obtain rfl := row_nil k2_1
  obtain ⟨_, _, rfl, e3_0, k3_1⟩ := row_cons k3_0
  obtain ⟨k, rfl⟩ := kind_int e3_0
  obtain rfl := row_nil k3_1
  exact ⟨l, x, y, k, rfl⟩

theorem ubulk8 (H : Type) : Bulk (H := H) Rows.uptoBulk Rows.uptoBulkAll where
  int _ _ := by simp [Rows.uptoBulk]
  bool _ := by simp [Rows.uptoBulk]
  str _ := by simp [Rows.uptoBulk]
  nil := by simp [Rows.uptoBulk]
  slice _ _ := by simp only [Rows.uptoBulk]; omega
  agg _ := by simp only [Rows.uptoBulk]; omega
  cons _ _ := by simp only [Rows.uptoBulkAll]; omega

theorem lifted8 (os : Os) (started : os.Started) (H : Type) (enc : TypeId × Value → H) (F : Stop.Interp) :
    ReturnsInHanded {} Try.checked os 8 .any ((Rows.OpenSpec.upto Rows.stateTransferSpec).pre6 enc Try.prog Try.f8 Rows.stateTransferUptoRow.domain false) (((Rows.OpenSpec.upto Rows.stateTransferSpec).at F).post enc Try.prog Try.f8 false true false false) := by
  refine returnsInHanded_of_cond (C := Try.checked) (s := Rows.OpenSpec.upto Rows.stateTransferSpec) (k := Rows.uptoSmall) rfl ownk started (by kernel_rfl) Try.func8
    (OpenSpec.witness (enc := enc) (C := Try.checked) (s := Rows.OpenSpec.upto Rows.stateTransferSpec) (k := Rows.uptoSmall) rfl false ⟨#[], #[.slice none 0 0, .int .i64 0, .int .i64 0, .int .i64 0], []⟩ 8 (by kernel_rfl) (by kernel_rfl) (by kernel_rfl)
      (x := ([.nil, .lit (.int .i64 0), .lit (.int .i64 0), .lit (.int .i64 0)], [], [])) (by kernel_rfl) rfl (by kernel_rfl)) ?_
  intro W base args ds gs before hval hW _ hk _
  have hk' : Rows.uptoBulkAll (ds ++ gs) ≤ 1048576 := of_decide_eq_true hk
  refine contract (s := Rows.stateTransferSpec) good mixed funcsOk (ts := [36, 3, 3, 3]) (tb := 4) (by kernel_rfl) (by kernel_rfl) (by kernel_rfl) rfl ?_ (by kernel_rfl) hval hW ?_
  · intro ds hd
    match ds, hd with
    | [_, _, _, _], _ => exact rfl
  · intro rows hr hbulk
    have hr' := hr
    obtain ⟨l, x, y, k, rfl⟩ := args8 hr
    have hb := Nat.le_trans (hbulk _ _ (ubulk8 H)) hk'
    refine valid_run L8 valid8 8 _ _ _ ?_
    have hw := (argsOk_wf hr').1 _ List.mem_cons_self
    have hl := len_bulk (k := .int .i64) (ks := []) (wf_slice (ks := [.int .i64]) hw (by kernel_rfl)).1
    simp only [bulkRs, bulkR, bulkC] at hb
    exact congrArg (fun b => (b, (([.one (.bool true)], []) : List AV × List Block))) (by simp only [decide_eq_true_eq]; omega)

theorem proved8 : Rows.StateTransferUptoSaid :=
  OpenClaim.holds_of_cond 8 Try.f8 rfl rfl rfl rfl rfl rfl rfl ⟨rfl, rfl, rfl, rfl, rfl⟩ rfl rfl rfl rfl rfl (by kernel_rfl) Try.func8 (by kernel_rfl)
    (of_decide_eq_true (by kernel_rfl)) (by unfold Func.isWrapper; rw [if_neg (of_decide_eq_true (by kernel_rfl))]; exact ⟨rfl, rfl⟩)
    (fun os started H enc _ F => lifted8 os started H enc F)

end Go.Proofs.Ytkfniijfenkocaa
