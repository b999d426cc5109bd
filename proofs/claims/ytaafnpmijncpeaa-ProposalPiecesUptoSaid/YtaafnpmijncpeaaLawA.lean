/-
  The first four laws, in plain Lean: what the code computes is true.
-/
import Derived.Test.YtaafnpmijncpeaaPure2
namespace Go.Proofs.Ytaafnpmijncpeaa
open Go.Abs

theorem law4 (a n : Int) (c : List (List Cell)) : runF E (callOf L3) 1 4 [.agg [.int .i64 a, .int .i64 n, .sl false 25 c]] [] = some ([.one (.bool true)], []) := by
  rw [e4]
  refine cs (fun _ => rfl) (fun h => ?_)
  have h' := of_decide_eq_false h
  exact ct (decide_eq_true (by omega)) (ct (decide_eq_true (by omega)) (ct (by simp) rfl))

theorem cmpP_cases (a n b m : Int) : (cmpP a n b m = -1 ∧ (a < b ∨ (a = b ∧ n < m))) ∨ (cmpP a n b m = 0 ∧ a = b ∧ n = m) ∨ (cmpP a n b m = 1 ∧ (b < a ∨ (a = b ∧ m < n))) := by
  unfold cmpP
  (repeat' split) <;> omega

theorem law5 (a n : Int) (c : List (List Cell)) (b m : Int) (d : List (List Cell)) (x k : Int) (y : List (List Cell)) : runF E (callOf L4) 1 5 [.agg [.int .i64 a, .int .i64 n, .sl false 25 c], .agg [.int .i64 b, .int .i64 m, .sl false 25 d], .agg [.int .i64 x, .int .i64 k, .sl false 25 y]] [] = some ([.one (.bool true)], []) := by
  rw [e5]
  refine cf (by simp) ?_
  have h1 := cmpP_cases a n b m
  have h2 := cmpP_cases b m a n
  have h3 := cmpP_cases b m x k
  have h4 := cmpP_cases a n x k
  refine cf ?_ ?_
  · rw [wrap64 (by omega) (by omega)]
    simp only [bne_eq_false_iff_eq]
    omega
  · generalize cmpP a n b m = p at *
    generalize cmpP b m x k = q at *
    generalize cmpP a n x k = r at *
    generalize cmpP b m a n = s at *
    repeat' (refine cs (fun _ => ?_) (fun _ => ?_))
    all_goals simp only [decide_eq_true_eq, decide_eq_false_iff_not] at *
    all_goals first | rfl | (exfalso; omega)

theorem eqChs_refl : ∀ c : List (List Cell), eqChs c c = true
  | [] => rfl
  | r :: c => by
    have : eqChR r r = true := by simp [eqChR, eqCh]
    rw [eqChs]
    show (eqChR r r && eqChs c c) = true
    rw [this, eqChs_refl c]
    rfl

theorem eqP_refl (a n : Int) (c : List (List Cell)) : eqP a n c a n c = true := by
  simp [eqP, eqChs_refl]

theorem law6 (a n : Int) (c : List (List Cell)) (b m : Int) (d : List (List Cell)) : runF E (callOf L5) 1 6 [.agg [.int .i64 a, .int .i64 n, .sl false 25 c], .agg [.int .i64 b, .int .i64 m, .sl false 25 d]] [] = some ([.one (.bool true)], []) := by
  rw [e6]
  refine cs (fun _ => rfl) (fun h => cs (fun _ => rfl) (fun _ => ?_))
  have h' := of_decide_eq_false h
  exact ct (decide_eq_true (by omega)) (ct (decide_eq_true (by omega)) (ct (by simp) (ct (decide_eq_true (by omega)) (ct (eqP_refl _ _ _) rfl))))

end Go.Proofs.Ytaafnpmijncpeaa
