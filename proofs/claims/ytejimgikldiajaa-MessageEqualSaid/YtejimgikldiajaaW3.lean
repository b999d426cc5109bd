/-
  MessageEqual returns true: for every argument; no condition.
-/
import Derived.Test.YtejimgikldiajaaVal
import Derived.Test.YtejimgikldiajaaFn
import Derived.Test.YtejimgikldiajaaRows
import Derived.JoinedOf
import Derived.JoinedAt
import Derived.ChangeSame
import Derived.JoinedCond
namespace Go.Proofs.Ytejimgikldiajaa
open Go.Abs Go.ChangeShapes Go.WideShapes Go.ChangeAt
set_option maxRecDepth 100000

theorem args3 {rows : List (List Cell)} (h : ArgsOk E [33, 33] rows) : ∃ (k1 : Int) (f1 : Int) (t1 : Int) (p1 : Int) (n1 : Int) (r1 : Int) (o1 : Int) (cf1 : List (List Cell)) (ct1 : List (List Cell)) (bf1 : List (List Cell)) (bt1 : List (List Cell)) (h1 : Bool) (ef1 : List (List Cell)) (et1 : List (List Cell)) (g1 : List (List Cell)) (u1 : List (List Cell)) (v1 : List (List Cell)) (m1 : Bool) (k2 : Int) (f2 : Int) (t2 : Int) (p2 : Int) (n2 : Int) (r2 : Int) (o2 : Int) (cf2 : List (List Cell)) (ct2 : List (List Cell)) (bf2 : List (List Cell)) (bt2 : List (List Cell)) (h2 : Bool) (ef2 : List (List Cell)) (et2 : List (List Cell)) (g2 : List (List Cell)) (u2 : List (List Cell)) (v2 : List (List Cell)) (m2 : Bool), rows = [[Cell.int .i64 k1, Cell.int .i64 f1, Cell.int .i64 t1, Cell.int .i64 p1, Cell.int .i64 n1, Cell.int .i64 r1, Cell.int .i64 o1, Cell.slice 74 cf1, Cell.slice 74 ct1, Cell.slice 74 bf1, Cell.slice 74 bt1, Cell.bool h1, Cell.slice 74 ef1, Cell.slice 74 et1, Cell.slice 74 g1, Cell.slice 48 u1, Cell.slice 52 v1, Cell.bool m1], [Cell.int .i64 k2, Cell.int .i64 f2, Cell.int .i64 t2, Cell.int .i64 p2, Cell.int .i64 n2, Cell.int .i64 r2, Cell.int .i64 o2, Cell.slice 74 cf2, Cell.slice 74 ct2, Cell.slice 74 bf2, Cell.slice 74 bt2, Cell.bool h2, Cell.slice 74 ef2, Cell.slice 74 et2, Cell.slice 74 g2, Cell.slice 48 u2, Cell.slice 52 v2, Cell.bool m2]] := by
  obtain ⟨r0, q0, rfl, k0_0, -, h⟩ := argsOk_cons (ks := [.int .i64, .int .i64, .int .i64, .int .i64, .int .i64, .int .i64, .int .i64, .slice 74, .slice 74, .slice 74, .slice 74, .bool, .slice 74, .slice 74, .slice 74, .slice 48, .slice 52, .bool]) h (by kernel_rfl)
  obtain ⟨r1, q1, rfl, k1_0, -, h⟩ := argsOk_cons (ks := [.int .i64, .int .i64, .int .i64, .int .i64, .int .i64, .int .i64, .int .i64, .slice 74, .slice 74, .slice 74, .slice 74, .bool, .slice 74, .slice 74, .slice 74, .slice 48, .slice 52, .bool]) h (by kernel_rfl)
  obtain rfl := argsOk_nil h
  obtain ⟨_, _, rfl, e0_0, k0_1⟩ := row_cons k0_0
  obtain ⟨k1, rfl⟩ := kind_int e0_0
  obtain ⟨_, _, rfl, e0_1, k0_2⟩ := row_cons k0_1
  obtain ⟨f1, rfl⟩ := kind_int e0_1
  obtain ⟨_, _, rfl, e0_2, k0_3⟩ := row_cons k0_2
  obtain ⟨t1, rfl⟩ := kind_int e0_2
  obtain ⟨_, _, rfl, e0_3, k0_4⟩ := row_cons k0_3
  obtain ⟨p1, rfl⟩ := kind_int e0_3
  obtain ⟨_, _, rfl, e0_4, k0_5⟩ := row_cons k0_4
  obtain ⟨n1, rfl⟩ := kind_int e0_4
  obtain ⟨_, _, rfl, e0_5, k0_6⟩ := row_cons k0_5
  obtain ⟨r1, rfl⟩ := kind_int e0_5
  obtain ⟨_, _, rfl, e0_6, k0_7⟩ := row_cons k0_6
  obtain ⟨o1, rfl⟩ := kind_int e0_6
  obtain ⟨_, _, rfl, e0_7, k0_8⟩ := row_cons k0_7
  obtain ⟨cf1, rfl⟩ := kind_slice e0_7
  obtain ⟨_, _, rfl, e0_8, k0_9⟩ := row_cons k0_8
  obtain ⟨ct1, rfl⟩ := kind_slice e0_8
  obtain ⟨_, _, rfl, e0_9, k0_10⟩ := row_cons k0_9
  obtain ⟨bf1, rfl⟩ := kind_slice e0_9
  obtain ⟨_, _, rfl, e0_10, k0_11⟩ := row_cons k0_10
  obtain ⟨bt1, rfl⟩ := kind_slice e0_10
  obtain ⟨_, _, rfl, e0_11, k0_12⟩ := row_cons k0_11
  obtain ⟨h1, rfl⟩ := kind_bool e0_11
  obtain ⟨_, _, rfl, e0_12, k0_13⟩ := row_cons k0_12
  obtain ⟨ef1, rfl⟩ := kind_slice e0_12
  obtain ⟨_, _, rfl, e0_13, k0_14⟩ := row_cons k0_13
  obtain ⟨et1, rfl⟩ := kind_slice e0_13
  obtain ⟨_, _, rfl, e0_14, k0_15⟩ := row_cons k0_14
  obtain ⟨g1, rfl⟩ := kind_slice e0_14
  obtain ⟨_, _, rfl, e0_15, k0_16⟩ := row_cons k0_15
  obtain ⟨u1, rfl⟩ := kind_slice e0_15
  obtain ⟨_, _, rfl, e0_16, k0_17⟩ := row_cons k0_16
  obtain ⟨v1, rfl⟩ := kind_slice e0_16
  obtain ⟨_, _, rfl, e0_17, k0_18⟩ := row_cons k0_17
  obtain ⟨m1, rfl⟩ := kind_bool e0_17
  obtain rfl := row_nil k0_18
  obtain ⟨_, _, rfl, e1_0, k1_1⟩ := row_cons k1_0
  obtain ⟨k2, rfl⟩ := kind_int e1_0
  obtain ⟨_, _, rfl, e1_1, k1_2⟩ := row_cons k1_1
  obtain ⟨f2, rfl⟩ := kind_int e1_1
  obtain ⟨_, _, rfl, e1_2, k1_3⟩ := row_cons k1_2
  obtain ⟨t2, rfl⟩ := kind_int e1_2
  obtain ⟨_, _, rfl, e1_3, k1_4⟩ := row_cons k1_3
  obtain ⟨p2, rfl⟩ := kind_int e1_3
  obtain ⟨_, _, rfl, e1_4, k1_5⟩ := row_cons k1_4
  obtain ⟨n2, rfl⟩ := kind_int e1_4
  obtain ⟨_, _, rfl, e1_5, k1_6⟩ := row_cons k1_5
  obtain ⟨r2, rfl⟩ := kind_int e1_5
  obtain ⟨_, _, rfl, e1_6, k1_7⟩ := row_cons k1_6
  obtain ⟨o2, rfl⟩ := kind_int e1_6
  obtain ⟨_, _, rfl, e1_7, k1_8⟩ := row_cons k1_7
  obtain ⟨cf2, rfl⟩ := kind_slice e1_7
  obtain ⟨_, _, rfl, e1_8, k1_9⟩ := row_cons k1_8
  obtain ⟨ct2, rfl⟩ := kind_slice e1_8
  obtain ⟨_, _, rfl, e1_9, k1_10⟩ := row_cons k1_9
  obtain ⟨bf2, rfl⟩ := kind_slice e1_9
  obtain ⟨_, _, rfl, e1_10, k1_11⟩ := row_cons k1_10
  obtain ⟨bt2, rfl⟩ := kind_slice e1_10
  obtain ⟨_, _, rfl, e1_11, k1_12⟩ := row_cons k1_11
  obtain ⟨h2, rfl⟩ := kind_bool e1_11
  obtain ⟨_, _, rfl, e1_12, k1_13⟩ := row_cons k1_12
  obtain ⟨ef2, rfl⟩ := kind_slice e1_12
  obtain ⟨_, _, rfl, e1_13, k1_14⟩ := row_cons k1_13
  obtain ⟨et2, rfl⟩ := kind_slice e1_13
  obtain ⟨_, _, rfl, e1_14, k1_15⟩ := row_cons k1_14
  obtain ⟨g2, rfl⟩ := kind_slice e1_14
  obtain ⟨_, _, rfl, e1_15, k1_16⟩ := row_cons k1_15
  obtain ⟨u2, rfl⟩ := kind_slice e1_15
  obtain ⟨_, _, rfl, e1_16, k1_17⟩ := row_cons k1_16
  obtain ⟨v2, rfl⟩ := kind_slice e1_16
  obtain ⟨_, _, rfl, e1_17, k1_18⟩ := row_cons k1_17
  obtain ⟨m2, rfl⟩ := kind_bool e1_17
  obtain rfl := row_nil k1_18
  exact ⟨k1, f1, t1, p1, n1, r1, o1, cf1, ct1, bf1, bt1, h1, ef1, et1, g1, u1, v1, m1, k2, f2, t2, p2, n2, r2, o2, cf2, ct2, bf2, bt2, h2, ef2, et2, g2, u2, v2, m2, rfl⟩

theorem lifted3 (os : Os) (started : os.Started) (H : Type) (enc : TypeId × Value → H) :
    ReturnsInHanded {} Try.checked os 3 .any (Rows.messageEqualSpec.pre6 enc Try.prog Try.f3 Rows.messageEqualRow.domain false) (Rows.messageEqualSpec.post enc Try.prog Try.f3 false true false false) := by
  refine returnsInHanded_of_change (C := Try.checked) ownk started (by kernel_rfl) Try.func3
    (ChangeSpec.witness6 (enc := enc) (C := Try.checked) false ⟨#[], #[.agg #[.int .i64 0, .int .i64 0, .int .i64 0, .int .i64 0, .int .i64 0, .int .i64 0, .int .i64 0, .slice none 0 0, .slice none 0 0, .slice none 0 0, .slice none 0 0, .bool false, .slice none 0 0, .slice none 0 0, .slice none 0 0, .slice none 0 0, .slice none 0 0, .bool false], .agg #[.int .i64 0, .int .i64 0, .int .i64 0, .int .i64 0, .int .i64 0, .int .i64 0, .int .i64 0, .slice none 0 0, .slice none 0 0, .slice none 0 0, .slice none 0 0, .bool false, .slice none 0 0, .slice none 0 0, .slice none 0 0, .slice none 0 0, .slice none 0 0, .bool false]], []⟩ 8 (by kernel_rfl) (by kernel_rfl) (by kernel_rfl) (by kernel_rfl)) ?_
  intro W base args ds gs before hval hW _ _
  refine contract (s := Rows.messageEqualSpec) good mixed funcsOk (ts := [33, 33]) (tb := 4) (by kernel_rfl) (by kernel_rfl) (by kernel_rfl) rfl ?_ (by kernel_rfl) hval hW ?_
  · intro ds hd
    match ds, hd with
    | [_, _], _ => exact rfl
  · intro rows hr hbulk
    have hr' := hr
    obtain ⟨k1, f1, t1, p1, n1, r1, o1, cf1, ct1, bf1, bt1, h1, ef1, et1, g1, u1, v1, m1, k2, f2, t2, p2, n2, r2, o2, cf2, ct2, bf2, bt2, h2, ef2, et2, g2, u2, v2, m2, rfl⟩ := args3 hr
    refine valid_run L3 valid3 3 _ _ _ ?_
    have hw := (argsOk_wf hr').1
    have a0 := cfg_wf (hw (.slice 74 cf1) (by simp))
    have a1 := cfg_wf (hw (.slice 74 ct1) (by simp))
    have a2 := cfg_wf (hw (.slice 74 bf1) (by simp))
    have a3 := cfg_wf (hw (.slice 74 bt1) (by simp))
    have a4 := cfg_wf (hw (.slice 74 ef1) (by simp))
    have a5 := cfg_wf (hw (.slice 74 et1) (by simp))
    have a6 := cfg_wf (hw (.slice 74 g1) (by simp))
    have a7 := st_wf (hw (.slice 48 u1) (by simp))
    exact congrArg (fun b => (b, (([.one (.bool true)], []) : List AV × List Block))) (by unfold okArgM; rw [a0, a1, a2, a3, a4, a5, a6, a7]; rfl)

theorem proved3 : Rows.MessageEqualSaid :=
  OpenClaim.holds_of_wide 3 Try.f3 rfl rfl rfl rfl rfl rfl rfl ⟨rfl, rfl, rfl, rfl, rfl⟩ rfl rfl rfl rfl rfl (by kernel_rfl) Try.func3 (by kernel_rfl)
    (of_decide_eq_true (by kernel_rfl)) (by unfold Func.isWrapper; rw [if_neg (of_decide_eq_true (by kernel_rfl))]; exact ⟨rfl, rfl⟩)
    (fun os started H enc _ => lifted3 os started H enc)

end Go.Proofs.Ytejimgikldiajaa
