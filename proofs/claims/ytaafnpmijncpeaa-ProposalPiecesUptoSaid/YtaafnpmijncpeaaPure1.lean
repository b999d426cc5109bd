/-
  The contracts of the functions that ask no loop, or a loop over changes: that what the code computes is what the plain text says.
-/
import Derived.Test.YtaafnpmijncpeaaEq1
import Derived.Test.YtaafnpmijncpeaaA29
namespace Go.Proofs.Ytaafnpmijncpeaa
open Go.Abs

theorem k24 (n lo hi : Int) (u : Bool) : runF E (callOf L) 1 24 [.one (.int .i64 n), .one (.int .i64 lo), .one (.int .i64 hi), .one (.bool u)] [] = some ([.one (.bool (within n lo hi u))], []) := by
  rw [e24]; unfold within
  cases u
  · rfl
  · generalize decide (n ≥ lo) = b
    cases b <;> rfl

theorem k26 (n : Int) : runF E (callOf L25) 1 26 [.one (.int .i64 n)] [] = some ([.one (.bool (isServer n))], []) := by
  rw [e26]; unfold isServer
  generalize decide (n ≥ 1) = b
  cases b <;> rfl

theorem k28 (n : Int) : runF E (callOf L26) 1 28 [.one (.int .i64 n)] [] = some ([.one (.bool (isAdmin n))], []) := by
  rw [e28]; unfold isAdmin
  generalize decide (n ≥ 201) = b
  cases b <;> rfl

theorem k25 (k c f : Int) : runF E (callOf L24) 1 25 [.agg [.int .i64 k, .int .i64 c, .int .i64 f]] [] = some ([.one (.int .i64 (vRule k c f))], []) := by
  rw [e25]
  repeat' (refine cs (fun _ => ?_) (fun _ => ?_))
  all_goals refine congrArg (fun z => some ([AV.one (AC.int .i64 z)], ([] : List Block))) ?_
  all_goals simp only [Bool.not_eq_true', Bool.not_eq_false', bne_iff_ne, bne_eq_false_iff_eq, decide_eq_true_eq, beq_iff_eq, beq_eq_false_iff_ne, decide_eq_false_iff_not, Bool.and_eq_true, Bool.and_eq_false_iff] at *
  all_goals (unfold vRule; (repeat' split) <;> omega)

theorem k27 (k c f : Int) : runF E (callOf L28) 1 27 [.agg [.int .i64 k, .int .i64 c, .int .i64 f]] [] = some ([.one (.int .i64 (vRule k c f))], []) := by
  rw [e27]
  repeat' (refine cs (fun _ => ?_) (fun _ => ?_))
  all_goals refine congrArg (fun z => some ([AV.one (AC.int .i64 z)], ([] : List Block))) ?_
  all_goals simp only [isServer, Bool.not_eq_true', Bool.not_eq_false', bne_iff_ne, bne_eq_false_iff_eq, decide_eq_true_eq, beq_iff_eq, beq_eq_false_iff_ne, decide_eq_false_iff_not, Bool.and_eq_true, Bool.and_eq_false_iff] at *
  all_goals (unfold vRule; (repeat' split) <;> omega)

theorem within_t {n lo hi : Int} {u : Bool} : within n lo hi u = true ↔ (u = true ∧ lo ≤ n ∧ n ≤ hi) ∨ (u = false ∧ n = 0) := by
  unfold within
  cases u <;> simp

theorem within_f {n lo hi : Int} {u : Bool} : within n lo hi u = false ↔ (u = true ∧ ¬ (lo ≤ n ∧ n ≤ hi)) ∨ (u = false ∧ n ≠ 0) := by
  unfold within
  cases u <;> simp

theorem k10 (k s w v rk rc rf : Int) : runF E (callOf L27) 1 10 [.agg [.int .i64 k, .int .i64 s, .int .i64 w, .int .i64 v, .int .i64 rk, .int .i64 rc, .int .i64 rf]] [] = some ([.one (.int .i64 (vChange k s w v rk rc rf))], []) := by
  rw [e10]
  repeat' (refine cs (fun _ => ?_) (fun _ => ?_))
  all_goals refine congrArg (fun z => some ([AV.one (AC.int .i64 z)], ([] : List Block))) ?_
  all_goals simp only [within_t, within_f, Bool.not_eq_true', Bool.not_eq_false', bne_iff_ne, bne_eq_false_iff_eq, decide_eq_true_eq, beq_iff_eq, beq_eq_false_iff_ne, decide_eq_false_iff_not, Bool.and_eq_true, Bool.and_eq_false_iff, Bool.true_eq_false, Bool.false_eq_true, and_true, true_and, false_and, or_false, false_or] at *
  all_goals (unfold vChange; (repeat' split) <;> omega)

def tail11 (t6 : Bool) (b4 b5 b6 : Int) : Int := if t6 = true then vRule b4 b5 b6 else if b4 = 0 ∧ b5 = 0 ∧ b6 = 0 then 0 else 2

theorem k11_3 (t6 t77 : Bool) (b0 b1 b2 b3 b4 b5 b6 : Int) : goF E (callOf L10) F11 0 2 P11_3 (M11_3 t6 t77 b0 b1 b2 b3 b4 b5 b6) = some ([.one (.int .i64 (if t77 = true then 9 else tail11 t6 b4 b5 b6))], []) := by
  rw [e11_3, e11_4]
  unfold tail11
  cases t77 <;> cases t6 <;> try rfl
  simp only [cond_false, Bool.false_eq_true, if_false]
  refine cs (fun h => ?_) (fun h => ?_)
  · simp at h; rw [if_neg (by omega)]
  · simp at h; rw [if_pos (by omega)]

theorem k11_2 (t3 t4 t5 t6 t : Bool) (b0 b1 b2 b3 b4 b5 b6 : Int) : goF E (callOf L10) F11 0 3 P11_2 (M11_2 t3 t4 t5 t6 t b0 b1 b2 b3 b4 b5 b6) =
    some ([.one (.int .i64 (if t = true ∨ ((t5 = true ∨ t6 = true) ∧ (b3 < 1 ∨ 1000 < b3)) ∨ ((t3 = true ∨ t4 = true) ∧ b3 ≠ 0) then 9 else tail11 t6 b4 b5 b6))], []) := by
  rw [e11_2]
  simp only [k11_3]
  cases t <;> cases t5 <;> cases t6 <;> cases t3 <;> cases t4
  all_goals simp only [cond_true, cond_false]
  all_goals repeat' (refine cs (fun _ => ?_) (fun _ => ?_))
  all_goals refine congrArg (fun z => some ([AV.one (AC.int .i64 z)], ([] : List Block))) ?_
  all_goals simp only [bne_iff_ne, decide_eq_true_eq, decide_eq_false_iff_not, Bool.true_eq_false, Bool.false_eq_true, and_true, true_and, false_and, or_false, false_or, true_or, or_true, if_true, if_false, or_self, ne_eq] at *
  all_goals ((repeat' split) <;> first | rfl | omega)

theorem k11_1 (t3 t4 t5 t6 t : Bool) (b0 b1 b2 b3 b4 b5 b6 : Int) : goF E (callOf L10) F11 0 4 P11_1 (M11_1 t3 t4 t5 t6 t b0 b1 b2 b3 b4 b5 b6) =
    some ([.one (.int .i64 (if t = true ∨ ((t3 = true ∨ t5 = true) ∧ (b2 < 1 ∨ 9 < b2)) ∨ ((t4 = true ∨ t6 = true) ∧ b2 ≠ 0) ∨ ((t5 = true ∨ t6 = true) ∧ (b3 < 1 ∨ 1000 < b3)) ∨ ((t3 = true ∨ t4 = true) ∧ b3 ≠ 0) then 9 else tail11 t6 b4 b5 b6))], []) := by
  rw [e11_1]
  simp only [k11_2]
  cases t <;> cases t5 <;> cases t6 <;> cases t3 <;> cases t4
  all_goals simp only [cond_true, cond_false]
  all_goals repeat' (refine cs (fun _ => ?_) (fun _ => ?_))
  all_goals refine congrArg (fun z => some ([AV.one (AC.int .i64 z)], ([] : List Block))) ?_
  all_goals simp only [bne_iff_ne, decide_eq_true_eq, decide_eq_false_iff_not, Bool.true_eq_false, Bool.false_eq_true, and_true, true_and, false_and, or_false, false_or, true_or, or_true, if_true, if_false, or_self, ne_eq] at *
  all_goals ((repeat' split) <;> first | rfl | omega)

theorem k11 (k s w v rk rc rf : Int) : runF E (callOf L10) 6 11 [.agg [.int .i64 k, .int .i64 s, .int .i64 w, .int .i64 v, .int .i64 rk, .int .i64 rc, .int .i64 rf]] [] = some ([.one (.int .i64 (vChange k s w v rk rc rf))], []) := by
  rw [e11]
  simp only [e11_0, k11_1]
  by_cases h1 : k = 1
  · subst h1
    simp only [Int.reduceBEq, Bool.not_true, Bool.not_false, cond_true, cond_false, isServer]
    repeat' (refine cs (fun _ => ?_) (fun _ => ?_))
    all_goals refine congrArg (fun z => some ([AV.one (AC.int .i64 z)], ([] : List Block))) ?_
    all_goals simp only [tail11, Bool.not_eq_true', Bool.not_eq_false', bne_iff_ne, bne_eq_false_iff_eq, decide_eq_true_eq, decide_eq_false_iff_not, Bool.and_eq_true, Bool.and_eq_false_iff, Bool.true_eq_false, Bool.false_eq_true, and_true, true_and, false_and, or_false, false_or, true_or, or_true, if_true, if_false, or_self, ne_eq] at *
    all_goals (unfold vChange; (repeat' split) <;> omega)
  by_cases h2 : k = 2
  · subst h2
    simp only [Int.reduceBEq, Bool.not_true, Bool.not_false, cond_true, cond_false, isServer]
    repeat' (refine cs (fun _ => ?_) (fun _ => ?_))
    all_goals refine congrArg (fun z => some ([AV.one (AC.int .i64 z)], ([] : List Block))) ?_
    all_goals simp only [tail11, Bool.not_eq_true', Bool.not_eq_false', bne_iff_ne, bne_eq_false_iff_eq, decide_eq_true_eq, decide_eq_false_iff_not, Bool.and_eq_true, Bool.and_eq_false_iff, Bool.true_eq_false, Bool.false_eq_true, and_true, true_and, false_and, or_false, false_or, true_or, or_true, if_true, if_false, or_self, ne_eq] at *
    all_goals (unfold vChange; (repeat' split) <;> omega)
  by_cases h3 : k = 3
  · subst h3
    simp only [Int.reduceBEq, Bool.not_true, Bool.not_false, cond_true, cond_false, isServer]
    repeat' (refine cs (fun _ => ?_) (fun _ => ?_))
    all_goals refine congrArg (fun z => some ([AV.one (AC.int .i64 z)], ([] : List Block))) ?_
    all_goals simp only [tail11, Bool.not_eq_true', Bool.not_eq_false', bne_iff_ne, bne_eq_false_iff_eq, decide_eq_true_eq, decide_eq_false_iff_not, Bool.and_eq_true, Bool.and_eq_false_iff, Bool.true_eq_false, Bool.false_eq_true, and_true, true_and, false_and, or_false, false_or, true_or, or_true, if_true, if_false, or_self, ne_eq] at *
    all_goals (unfold vChange; (repeat' split) <;> omega)
  by_cases h4 : k = 4
  · subst h4
    simp only [Int.reduceBEq, Bool.not_true, Bool.not_false, cond_true, cond_false, isServer]
    repeat' (refine cs (fun _ => ?_) (fun _ => ?_))
    all_goals refine congrArg (fun z => some ([AV.one (AC.int .i64 z)], ([] : List Block))) ?_
    all_goals simp only [tail11, Bool.not_eq_true', Bool.not_eq_false', bne_iff_ne, bne_eq_false_iff_eq, decide_eq_true_eq, decide_eq_false_iff_not, Bool.and_eq_true, Bool.and_eq_false_iff, Bool.true_eq_false, Bool.false_eq_true, and_true, true_and, false_and, or_false, false_or, true_or, or_true, if_true, if_false, or_self, ne_eq] at *
    all_goals (unfold vChange; (repeat' split) <;> omega)
  · have g1 : (k == 1) = false := by simpa using h1
    have g2 : (k == 2) = false := by simpa using h2
    have g3 : (k == 3) = false := by simpa using h3
    have g4 : (k == 4) = false := by simpa using h4
    simp only [g1, g2, g3, g4, Bool.not_false, cond_true]
    refine congrArg (fun z => some ([AV.one (AC.int .i64 z)], ([] : List Block))) ?_
    unfold vChange
    rw [if_pos (by omega)]

end Go.Proofs.Ytaafnpmijncpeaa
