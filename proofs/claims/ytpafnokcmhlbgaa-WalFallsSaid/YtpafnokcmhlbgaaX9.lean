/-
  WalFalls returns true: for every argument; no condition.
-/
import Derived.Test.YtpafnokcmhlbgaaValF
import Derived.Test.YtpafnokcmhlbgaaFn
import Derived.Test.YtpafnokcmhlbgaaRows
import Derived.JoinedOf
import Derived.JoinedAt
import Derived.ChangeSame
import Derived.JoinedCond
namespace Go.Proofs.Ytpafnokcmhlbgaa
open Go.Abs Go.ChangeShapes Go.WideShapes Go.ChangeAt
set_option maxRecDepth 100000

theorem args9 {rows : List (List Cell)} (h : ArgsOk E [23, 23, 4, 3, 3, 3, 65] rows) : ∃ (r : List (List Cell)) (t : List (List Cell)) (p : Bool) (f : Int) (k : Int) (o : Int) (g : List (List Cell)), rows = [[Cell.slice 22 r], [Cell.slice 22 t], [Cell.bool p], [Cell.int .i64 f], [Cell.int .i64 k], [Cell.int .i64 o], [Cell.slice 67 g]] := by
  obtain ⟨r0, q0, rfl, k0_0, -, h⟩ := argsOk_cons (ks := [.slice 22]) h (by kernel_rfl)
  obtain ⟨r1, q1, rfl, k1_0, -, h⟩ := argsOk_cons (ks := [.slice 22]) h (by kernel_rfl)
  obtain ⟨r2, q2, rfl, k2_0, -, h⟩ := argsOk_cons (ks := [.bool]) h (by kernel_rfl)
  obtain ⟨r3, q3, rfl, k3_0, -, h⟩ := argsOk_cons (ks := [.int .i64]) h (by kernel_rfl)
  obtain ⟨r4, q4, rfl, k4_0, -, h⟩ := argsOk_cons (ks := [.int .i64]) h (by kernel_rfl)
  obtain ⟨r5, q5, rfl, k5_0, -, h⟩ := argsOk_cons (ks := [.int .i64]) h (by kernel_rfl)
  obtain ⟨r6, q6, rfl, k6_0, -, h⟩ := argsOk_cons (ks := [.slice 67]) h (by kernel_rfl)
  obtain rfl := argsOk_nil h
  obtain ⟨_, _, rfl, e0_0, k0_1⟩ := row_cons k0_0
  obtain ⟨r, rfl⟩ := kind_slice e0_0
  obtain rfl := row_nil k0_1
  obtain ⟨_, _, rfl, e1_0, k1_1⟩ := row_cons k1_0
  obtain ⟨t, rfl⟩ := kind_slice e1_0
  obtain rfl := row_nil k1_1
  obtain ⟨_, _, rfl, e2_0, k2_1⟩ := row_cons k2_0
  obtain ⟨p, rfl⟩ := kind_bool e2_0
  obtain rfl := row_nil k2_1
  obtain ⟨_, _, rfl, e3_0, k3_1⟩ := row_cons k3_0
  obtain ⟨f, rfl⟩ := kind_int e3_0
  obtain rfl := row_nil k3_1
  obtain ⟨_, _, rfl, e4_0, k4_1⟩ := row_cons k4_0
  obtain ⟨k, rfl⟩ := kind_int e4_0
  obtain rfl := row_nil k4_1
  obtain ⟨_, _, rfl, e5_0, k5_1⟩ := row_cons k5_0
  obtain ⟨o, rfl⟩ := kind_int e5_0
  obtain rfl := row_nil k5_1
  obtain ⟨_, _, rfl, e6_0, k6_1⟩ := row_cons k6_0
  obtain ⟨g, rfl⟩ := kind_slice e6_0
  obtain rfl := row_nil k6_1
  exact ⟨r, t, p, f, k, o, g, rfl⟩

theorem lifted9 (os : Os) (started : os.Started) (H : Type) (enc : TypeId × Value → H) :
    ReturnsInHanded {} Try.checked os 9 .any (Rows.walFallsSpec.pre6 enc Try.prog Try.f9 Rows.walFallsRow.domain false) (Rows.walFallsSpec.post enc Try.prog Try.f9 false true false false) := by
  refine returnsInHanded_of_change (C := Try.checked) ownk started (by kernel_rfl) Try.func9
    (ChangeSpec.witness6 (enc := enc) (C := Try.checked) false ⟨#[], #[.slice none 0 0, .slice none 0 0, .bool false, .int .i64 0, .int .i64 0, .int .i64 0, .slice none 0 0], []⟩ 8 (by kernel_rfl) (by kernel_rfl) (by kernel_rfl) (by kernel_rfl)) ?_
  intro W base args ds gs before hval hW _ _
  refine contract (s := Rows.walFallsSpec) good mixed funcsOk (ts := [23, 23, 4, 3, 3, 3, 65]) (tb := 4) (by kernel_rfl) (by kernel_rfl) (by kernel_rfl) rfl ?_ (by kernel_rfl) hval hW ?_
  · intro ds hd
    match ds, hd with
    | [_, _, _, _, _, _, _], _ => exact rfl
  · intro rows hr hbulk
    have hr' := hr
    obtain ⟨r, t, p, f, k, o, g, rfl⟩ := args9 hr
    refine valid_run L9 valid9 9 _ _ _ ?_
    have h1 := arg_wf ((argsOk_wf hr').1 _ List.mem_cons_self)
    have h2 := arg_wf ((argsOk_wf (argsOk_wf hr').2).1 _ List.mem_cons_self)
    exact congrArg (fun b => (b, (([.one (.bool true)], []) : List AV × List Block))) (by rw [h1, h2]; rfl)

theorem proved9 : Rows.WalFallsSaid :=
  OpenClaim.holds_of_wide 9 Try.f9 rfl rfl rfl rfl rfl rfl rfl ⟨rfl, rfl, rfl, rfl, rfl⟩ rfl rfl rfl rfl rfl (by kernel_rfl) Try.func9 (by kernel_rfl)
    (of_decide_eq_true (by kernel_rfl)) (by unfold Func.isWrapper; rw [if_neg (of_decide_eq_true (by kernel_rfl))]; exact ⟨rfl, rfl⟩)
    (fun os started H enc _ => lifted9 os started H enc)

end Go.Proofs.Ytpafnokcmhlbgaa
