/-
  The first four laws, in plain Lean: what the code computes is true.
-/
import Derived.Test.YteogaajjkcfeeaaPure1
namespace Go.Proofs.Yteogaajjkcfeeaa
open Go.Abs

theorem law3 (k : Int) (o f : List UInt8) (n : Int) (s : List UInt8) : runF E (callOf L10) 1 3 [.agg [.int .i64 k, .str o, .str f, .int .i64 n, .str s]] [] = some ([.one (.bool true)], []) := by
  rw [e3]
  exact cs (fun _ => rfl) (fun _ => cs (fun _ => rfl) (fun _ => cs (fun _ => rfl) (fun _ => ct (by simp) rfl)))

theorem law4 (c q t : Int) (l : List (List Cell)) : runF E (callOf L3) 1 4 [.agg [.int .i64 c, .int .i64 q, .int .i64 t, .sl false 23 l]] [] = some ([.one (.bool true)], []) := by
  rw [e4]
  refine cs (fun _ => rfl) (fun h => ?_)
  have h' : l.length ≤ 60 := by simpa using h
  rw [decide_eq_true (show l.length < 4611686018427387904 by omega)]
  exact ct (by simp) (ct rfl (ct rfl (ct (by simp) rfl)))

theorem cmpU_cases (a n b m : Int) : (cmpU a n b m = -1 ∧ (a < b ∨ (a = b ∧ n < m))) ∨ (cmpU a n b m = 0 ∧ a = b ∧ n = m) ∨ (cmpU a n b m = 1 ∧ (b < a ∨ (a = b ∧ m < n))) := by
  unfold cmpU
  (repeat' split) <;> omega

theorem befU_iff (t a n u b m : Int) : befU t a n u b m = true ↔ t < u ∨ (t = u ∧ (a < b ∨ (a = b ∧ n < m))) := by
  have := cmpU_cases a n b m
  unfold befU
  simp only [Bool.or_eq_true, Bool.and_eq_true, decide_eq_true_eq]
  omega

theorem befU_not (t a n u b m : Int) : befU t a n u b m = false ↔ ¬ (t < u ∨ (t = u ∧ (a < b ∨ (a = b ∧ n < m)))) := by
  rw [← befU_iff]
  simp

theorem law5 (a n t : Int) (c : List (List Cell)) (b m u : Int) (d : List (List Cell)) (x k v : Int) (y : List (List Cell)) : runF E (callOf L4) 1 5 [.agg [.int .i64 a, .int .i64 n, .int .i64 t, .sl false 23 c], .agg [.int .i64 b, .int .i64 m, .int .i64 u, .sl false 23 d], .agg [.int .i64 x, .int .i64 k, .int .i64 v, .sl false 23 y]] [] = some ([.one (.bool true)], []) := by
  rw [e5]
  refine cf (by simp) (cf (by simp) (cf ((befU_not _ _ _ _ _ _).2 (by omega)) ?_))
  have h1 := cmpU_cases a n b m
  have h3 := cmpU_cases b m x k
  have h4 := cmpU_cases a n x k
  have g1 := befU_iff t a n u b m
  have g2 := befU_iff u b m t a n
  have g3 := befU_iff u b m v x k
  have g4 := befU_iff t a n v x k
  generalize cmpU a n b m = p at *
  generalize cmpU b m x k = q at *
  generalize cmpU a n x k = r at *
  generalize befU t a n u b m = w1 at *
  generalize befU u b m t a n = w2 at *
  generalize befU u b m v x k = w3 at *
  generalize befU t a n v x k = w4 at *
  cases w1 <;> cases w2 <;> cases w3 <;> cases w4
  all_goals simp only [Bool.true_eq_false, Bool.false_eq_true, true_iff, false_iff, Bool.not_true, Bool.not_false, cond_true, cond_false] at *
  all_goals first | rfl | (exfalso; omega) | skip
  all_goals repeat' (refine cs (fun _ => ?_) (fun _ => ?_))
  all_goals simp only [bne_iff_ne, bne_eq_false_iff_eq, decide_eq_true_eq, decide_eq_false_iff_not] at *
  all_goals first | rfl | (exfalso; omega)

theorem eqEffF_refl : ∀ c : List (List Cell), eqEffF c c = true
  | [] => rfl
  | r :: c => by
    have : eqEffR r r = true := by simp [eqEffR]
    rw [eqEffF]
    show (eqEffR r r && eqEffF c c) = true
    rw [this, eqEffF_refl c]
    rfl

theorem eqU_refl (a n t : Int) (c : List (List Cell)) : eqU a n t c a n t c = true := by
  simp [eqU, eqEffs, eqEffF_refl]

theorem law6 (a n t : Int) (c : List (List Cell)) (b m u : Int) (d : List (List Cell)) : runF E (callOf L5) 1 6 [.agg [.int .i64 a, .int .i64 n, .int .i64 t, .sl false 23 c], .agg [.int .i64 b, .int .i64 m, .int .i64 u, .sl false 23 d]] [] = some ([.one (.bool true)], []) := by
  rw [e6]
  refine cs (fun _ => rfl) (fun h => cs (fun _ => rfl) (fun h2 => ?_))
  have h' : c.length ≤ 60 := by simpa using h
  rw [decide_eq_true (show c.length < 4611686018427387904 by omega), eqU_refl]
  exact ct rfl (ct rfl (ct (by simp) (ct rfl (ct rfl rfl))))

end Go.Proofs.Yteogaajjkcfeeaa
