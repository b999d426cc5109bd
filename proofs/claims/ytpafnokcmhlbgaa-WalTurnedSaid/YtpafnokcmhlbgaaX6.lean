/-
  WalTurned returns true: for every argument; no condition.
-/
import Derived.Test.YtpafnokcmhlbgaaValT
import Derived.Test.YtpafnokcmhlbgaaFn
import Derived.Test.YtpafnokcmhlbgaaRows
import Derived.JoinedOf
import Derived.JoinedAt
import Derived.ChangeSame
import Derived.JoinedCond
namespace Go.Proofs.Ytpafnokcmhlbgaa
open Go.Abs Go.ChangeShapes Go.WideShapes Go.ChangeAt
set_option maxRecDepth 100000

theorem args6 {rows : List (List Cell)} (h : ArgsOk E [23, 3, 3, 5] rows) : ∃ (r : List (List Cell)) (w : Int) (a : Int) (y : Int), rows = [[Cell.slice 22 r], [Cell.int .i64 w], [Cell.int .i64 a], [Cell.int .u8 y]] := by
  obtain ⟨r0, q0, rfl, k0_0, -, h⟩ := argsOk_cons (ks := [.slice 22]) h (by kernel_rfl)
  obtain ⟨r1, q1, rfl, k1_0, -, h⟩ := argsOk_cons (ks := [.int .i64]) h (by kernel_rfl)
  obtain ⟨r2, q2, rfl, k2_0, -, h⟩ := argsOk_cons (ks := [.int .i64]) h (by kernel_rfl)
  obtain ⟨r3, q3, rfl, k3_0, -, h⟩ := argsOk_cons (ks := [.int .u8]) h (by kernel_rfl)
  obtain rfl := argsOk_nil h
  obtain ⟨_, _, rfl, e0_0, k0_1⟩ := row_cons k0_0
  obtain ⟨r, rfl⟩ := kind_slice e0_0
  obtain rfl := row_nil k0_1
  obtain ⟨_, _, rfl, e1_0, k1_1⟩ := row_cons k1_0
  obtain ⟨w, rfl⟩ := kind_int e1_0
  obtain rfl := row_nil k1_1
  obtain ⟨_, _, rfl, e2_0, k2_1⟩ := row_cons k2_0
  obtain ⟨a, rfl⟩ := kind_int e2_0
  obtain rfl := row_nil k2_1
  obtain ⟨_, _, rfl, e3_0, k3_1⟩ := row_cons k3_0
  obtain ⟨y, rfl⟩ := kind_int e3_0
  obtain rfl := row_nil k3_1
  exact ⟨r, w, a, y, rfl⟩

theorem lifted6 (os : Os) (started : os.Started) (H : Type) (enc : TypeId × Value → H) :
    ReturnsInHanded {} Try.checked os 6 .any (Rows.walTurnedSpec.pre6 enc Try.prog Try.f6 Rows.walTurnedRow.domain false) (Rows.walTurnedSpec.post enc Try.prog Try.f6 false true false false) := by
  refine returnsInHanded_of_change (C := Try.checked) ownk started (by kernel_rfl) Try.func6
    (ChangeSpec.witness6 (enc := enc) (C := Try.checked) false ⟨#[], #[.slice none 0 0, .int .i64 0, .int .i64 0, .int .u8 0], []⟩ 8 (by kernel_rfl) (by kernel_rfl) (by kernel_rfl) (by kernel_rfl)) ?_
  intro W base args ds gs before hval hW _ _
  refine contract (s := Rows.walTurnedSpec) good mixed funcsOk (ts := [23, 3, 3, 5]) (tb := 4) (by kernel_rfl) (by kernel_rfl) (by kernel_rfl) rfl ?_ (by kernel_rfl) hval hW ?_
  · intro ds hd
    match ds, hd with
    | [_, _, _, _], _ => exact rfl
  · intro rows hr hbulk
    have hr' := hr
    obtain ⟨r, w, a, y, rfl⟩ := args6 hr
    refine valid_run L6 valid6 6 _ _ _ ?_
    have h1 := arg_wf ((argsOk_wf hr').1 _ List.mem_cons_self)
    have h2 : okY _ = true := okY_wf ((argsOk_wf (argsOk_wf (argsOk_wf (argsOk_wf hr').2).2).2).1 _ List.mem_cons_self)
    exact congrArg (fun b => (b, (([.one (.bool true)], []) : List AV × List Block))) (by rw [h1, h2]; rfl)

theorem proved6 : Rows.WalTurnedSaid :=
  OpenClaim.holds_of_wide 6 Try.f6 rfl rfl rfl rfl rfl rfl rfl ⟨rfl, rfl, rfl, rfl, rfl⟩ rfl rfl rfl rfl rfl (by kernel_rfl) Try.func6 (by kernel_rfl)
    (of_decide_eq_true (by kernel_rfl)) (by unfold Func.isWrapper; rw [if_neg (of_decide_eq_true (by kernel_rfl))]; exact ⟨rfl, rfl⟩)
    (fun os started H enc _ => lifted6 os started H enc)

end Go.Proofs.Ytpafnokcmhlbgaa
