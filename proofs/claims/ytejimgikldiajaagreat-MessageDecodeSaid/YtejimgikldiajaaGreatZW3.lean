/-
  MessageValidate returns true: for every argument; no condition.
-/
import Derived.Test.YtejimgikldiajaaGreatZ6
import Derived.Test.YtejimgikldiajaaGreatRows
import Derived.JoinedOf
import Derived.JoinedAt
import Derived.ChangeSame
import Derived.JoinedCond
namespace Go.Proofs.YtejimgikldiajaaGreat
open Go.Abs Go.ChangeShapes Go.WideShapes Go.ChangeAt
set_option maxRecDepth 100000

theorem args3 {rows : List (List Cell)} (h : ArgsOk E [33] rows) : ∃ (k1 : Int) (f1 : Int) (t1 : Int) (p1 : Int) (n1 : Int) (r1 : Int) (o1 : Int) (cf1 : List (List Cell)) (ct1 : List (List Cell)) (bf1 : List (List Cell)) (bt1 : List (List Cell)) (h1 : Bool) (ef1 : List (List Cell)) (et1 : List (List Cell)) (g1 : List (List Cell)) (u1 : List (List Cell)) (v1 : List (List Cell)) (m1 : Bool), rows = [[Cell.int .i64 k1, Cell.int .i64 f1, Cell.int .i64 t1, Cell.int .i64 p1, Cell.int .i64 n1, Cell.int .i64 r1, Cell.int .i64 o1, Cell.slice 93 cf1, Cell.slice 93 ct1, Cell.slice 93 bf1, Cell.slice 93 bt1, Cell.bool h1, Cell.slice 93 ef1, Cell.slice 93 et1, Cell.slice 93 g1, Cell.slice 96 u1, Cell.slice 103 v1, Cell.bool m1]] := by
  obtain ⟨r0, q0, rfl, k0_0, -, h⟩ := argsOk_cons (ks := [.int .i64, .int .i64, .int .i64, .int .i64, .int .i64, .int .i64, .int .i64, .slice 93, .slice 93, .slice 93, .slice 93, .bool, .slice 93, .slice 93, .slice 93, .slice 96, .slice 103, .bool]) h (by kernel_rfl)
  obtain rfl := argsOk_nil h
  obtain ⟨_, _, rfl, e0_0, k0_1⟩ := row_cons k0_0
  obtain ⟨k1, rfl⟩ := kind_int e0_0
  obtain ⟨_, _, rfl, e0_1, k0_2⟩ := row_cons k0_1
  obtain ⟨f1, rfl⟩ := kind_int e0_1
  obtain ⟨_, _, rfl, e0_2, k0_3⟩ := row_cons k0_2
  obtain ⟨t1, rfl⟩ := kind_int e0_2
  obtain ⟨_, _, rfl, e0_3, k0_4⟩ := row_cons k0_3
  obtain ⟨p1, rfl⟩ := kind_int e0_3
  obtain ⟨_, _, rfl, e0_4, k0_5⟩ := row_cons k0_4
  obtain ⟨n1, rfl⟩ := kind_int e0_4
  obtain ⟨_, _, rfl, e0_5, k0_6⟩ := row_cons k0_5
  obtain ⟨r1, rfl⟩ := kind_int e0_5
  obtain ⟨_, _, rfl, e0_6, k0_7⟩ := row_cons k0_6
  obtain ⟨o1, rfl⟩ := kind_int e0_6
  obtain ⟨_, _, rfl, e0_7, k0_8⟩ := row_cons k0_7
  obtain ⟨cf1, rfl⟩ := kind_slice e0_7
  obtain ⟨_, _, rfl, e0_8, k0_9⟩ := row_cons k0_8
  obtain ⟨ct1, rfl⟩ := kind_slice e0_8
  obtain ⟨_, _, rfl, e0_9, k0_10⟩ := row_cons k0_9
  obtain ⟨bf1, rfl⟩ := kind_slice e0_9
  obtain ⟨_, _, rfl, e0_10, k0_11⟩ := row_cons k0_10
  obtain ⟨bt1, rfl⟩ := kind_slice e0_10
  obtain ⟨_, _, rfl, e0_11, k0_12⟩ := row_cons k0_11
  obtain ⟨h1, rfl⟩ := kind_bool e0_11
  obtain ⟨_, _, rfl, e0_12, k0_13⟩ := row_cons k0_12
  obtain ⟨ef1, rfl⟩ := kind_slice e0_12
  obtain ⟨_, _, rfl, e0_13, k0_14⟩ := row_cons k0_13
  obtain ⟨et1, rfl⟩ := kind_slice e0_13
  obtain ⟨_, _, rfl, e0_14, k0_15⟩ := row_cons k0_14
  obtain ⟨g1, rfl⟩ := kind_slice e0_14
  obtain ⟨_, _, rfl, e0_15, k0_16⟩ := row_cons k0_15
  obtain ⟨u1, rfl⟩ := kind_slice e0_15
  obtain ⟨_, _, rfl, e0_16, k0_17⟩ := row_cons k0_16
  obtain ⟨v1, rfl⟩ := kind_slice e0_16
  obtain ⟨_, _, rfl, e0_17, k0_18⟩ := row_cons k0_17
  obtain ⟨m1, rfl⟩ := kind_bool e0_17
  obtain rfl := row_nil k0_18
  exact ⟨k1, f1, t1, p1, n1, r1, o1, cf1, ct1, bf1, bt1, h1, ef1, et1, g1, u1, v1, m1, rfl⟩

theorem lifted3 (os : Os) (started : os.Started) (H : Type) (enc : TypeId × Value → H) :
    ReturnsInHanded {} Tryz.checked os 3 .any (Rows.messageValidateSpec.pre6 enc Tryz.prog Tryz.f3 Rows.messageValidateRow.domain false) (Rows.messageValidateSpec.post enc Tryz.prog Tryz.f3 false true false false) := by
  refine returnsInHanded_of_change (C := Tryz.checked) ownk started (by kernel_rfl) Tryz.func3
    (ChangeSpec.witness6 (enc := enc) (C := Tryz.checked) false ⟨#[], #[.agg #[.int .i64 0, .int .i64 0, .int .i64 0, .int .i64 0, .int .i64 0, .int .i64 0, .int .i64 0, .slice none 0 0, .slice none 0 0, .slice none 0 0, .slice none 0 0, .bool false, .slice none 0 0, .slice none 0 0, .slice none 0 0, .slice none 0 0, .slice none 0 0, .bool false]], []⟩ 8 (by kernel_rfl) (by kernel_rfl) (by kernel_rfl) (by kernel_rfl)) ?_
  intro W base args ds gs before hval hW _ _
  refine contract (s := Rows.messageValidateSpec) good mixed funcsOk (ts := [33]) (tb := 4) (by kernel_rfl) (by kernel_rfl) (by kernel_rfl) rfl ?_ (by kernel_rfl) hval hW ?_
  · intro ds hd
    match ds, hd with
    | [_], _ => exact rfl
  · intro rows hr hbulk
    have hr' := hr
    obtain ⟨k1, f1, t1, p1, n1, r1, o1, cf1, ct1, bf1, bt1, h1, ef1, et1, g1, u1, v1, m1, rfl⟩ := args3 hr
    refine valid_run L3 valid3 3 _ _ _ ?_
    have hw := (argsOk_wf hr').1
    have a0 := cfg_wf (hw (.slice 93 cf1) (by simp))
    have a1 := cfg_wf (hw (.slice 93 ct1) (by simp))
    have a2 := cfg_wf (hw (.slice 93 bf1) (by simp))
    have a3 := cfg_wf (hw (.slice 93 bt1) (by simp))
    have a4 := cfg_wf (hw (.slice 93 ef1) (by simp))
    have a5 := cfg_wf (hw (.slice 93 et1) (by simp))
    have a6 := cfg_wf (hw (.slice 93 g1) (by simp))
    have a7 := st_wf (hw (.slice 96 u1) (by simp))
    exact congrArg (fun b => (b, (([.one (.bool true)], []) : List AV × List Block))) (by unfold okArgM; rw [a0, a1, a2, a3, a4, a5, a6, a7]; rfl)

theorem proved3 : Rows.MessageValidateSaid :=
  OpenClaim.holds_of_wide 3 Tryz.f3 rfl rfl rfl rfl rfl rfl rfl ⟨rfl, rfl, rfl, rfl, rfl⟩ rfl rfl rfl rfl rfl (by kernel_rfl) Tryz.func3 (by kernel_rfl)
    (of_decide_eq_true (by kernel_rfl)) (by unfold Func.isWrapper; rw [if_neg (of_decide_eq_true (by kernel_rfl))]; exact ⟨rfl, rfl⟩)
    (fun os started H enc _ => lifted3 os started H enc)

end Go.Proofs.YtejimgikldiajaaGreat
