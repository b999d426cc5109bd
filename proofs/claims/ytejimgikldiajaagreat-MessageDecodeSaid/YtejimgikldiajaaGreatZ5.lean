/-
  Merged texts: PW, KeyedV, CF, CE, CT, UW, ST, Eq3.
-/
import Derived.Test.YtejimgikldiajaaGreatZ4

namespace Go.Proofs.YtejimgikldiajaaGreat

open Go.Abs

theorem k138 (n lo hi : Int) (u : Bool) : runF E (callOf L) 1 138 [.one (.int .i64 n), .one (.int .i64 lo), .one (.int .i64 hi), .one (.bool u)] [] = some ([.one (.bool (within n lo hi u))], []) := by
  rw [e138]; unfold within
  cases u
  · rfl
  · generalize decide (n ≥ lo) = b
    cases b <;> rfl

theorem k65 (n : Int) : runF E (callOf L139) 1 65 [.one (.int .i64 n)] [] = some ([.one (.bool (isServer n))], []) := by
  rw [e65]; unfold isServer
  generalize decide (n ≥ 1) = b
  cases b <;> rfl

theorem k67 (n : Int) : runF E (callOf L65) 1 67 [.one (.int .i64 n)] [] = some ([.one (.bool (isAdmin n))], []) := by
  rw [e67]; unfold isAdmin
  generalize decide (n ≥ 201) = b
  cases b <;> rfl

theorem k139 (k c f : Int) : runF E (callOf L138) 1 139 [.agg [.int .i64 k, .int .i64 c, .int .i64 f]] [] = some ([.one (.int .i64 (vRule k c f))], []) := by
  rw [e139]
  repeat' (refine cs (fun _ => ?_) (fun _ => ?_))
  all_goals refine congrArg (fun z => some ([AV.one (AC.int .i64 z)], ([] : List Block))) ?_
  all_goals simp only [Bool.not_eq_true', Bool.not_eq_false', bne_iff_ne, bne_eq_false_iff_eq, decide_eq_true_eq, beq_iff_eq, beq_eq_false_iff_ne, decide_eq_false_iff_not, Bool.and_eq_true, Bool.and_eq_false_iff] at *
  all_goals (unfold vRule; (repeat' split) <;> omega)

theorem k145 (k c f : Int) : runF E (callOf L67) 1 145 [.agg [.int .i64 k, .int .i64 c, .int .i64 f]] [] = some ([.one (.int .i64 (vRule k c f))], []) := by
  rw [e145]
  repeat' (refine cs (fun _ => ?_) (fun _ => ?_))
  all_goals refine congrArg (fun z => some ([AV.one (AC.int .i64 z)], ([] : List Block))) ?_
  all_goals simp only [isServer, Bool.not_eq_true', Bool.not_eq_false', bne_iff_ne, bne_eq_false_iff_eq, decide_eq_true_eq, beq_iff_eq, beq_eq_false_iff_ne, decide_eq_false_iff_not, Bool.and_eq_true, Bool.and_eq_false_iff] at *
  all_goals (unfold vRule; (repeat' split) <;> omega)

theorem within_t {n lo hi : Int} {u : Bool} : within n lo hi u = true ↔ (u = true ∧ lo ≤ n ∧ n ≤ hi) ∨ (u = false ∧ n = 0) := by
  unfold within
  cases u <;> simp

theorem within_f {n lo hi : Int} {u : Bool} : within n lo hi u = false ↔ (u = true ∧ ¬ (lo ≤ n ∧ n ≤ hi)) ∨ (u = false ∧ n ≠ 0) := by
  unfold within
  cases u <;> simp

theorem k125 (k s w v rk rc rf : Int) : runF E (callOf L145) 1 125 [.agg [.int .i64 k, .int .i64 s, .int .i64 w, .int .i64 v, .int .i64 rk, .int .i64 rc, .int .i64 rf]] [] = some ([.one (.int .i64 (vChange k s w v rk rc rf))], []) := by
  rw [e125]
  repeat' (refine cs (fun _ => ?_) (fun _ => ?_))
  all_goals refine congrArg (fun z => some ([AV.one (AC.int .i64 z)], ([] : List Block))) ?_
  all_goals simp only [within_t, within_f, Bool.not_eq_true', Bool.not_eq_false', bne_iff_ne, bne_eq_false_iff_eq, decide_eq_true_eq, beq_iff_eq, beq_eq_false_iff_ne, decide_eq_false_iff_not, Bool.and_eq_true, Bool.and_eq_false_iff, Bool.true_eq_false, Bool.false_eq_true, and_true, true_and, false_and, or_false, false_or] at *
  all_goals (unfold vChange; (repeat' split) <;> omega)

def tail11 (t6 : Bool) (b4 b5 b6 : Int) : Int := if t6 = true then vRule b4 b5 b6 else if b4 = 0 ∧ b5 = 0 ∧ b6 = 0 then 0 else 2

theorem k133_3 (t6 t77 : Bool) (b0 b1 b2 b3 b4 b5 b6 : Int) : goF E (callOf L125) F133 0 2 P133_3 (M133_3 t6 t77 b0 b1 b2 b3 b4 b5 b6) = some ([.one (.int .i64 (if t77 = true then 9 else tail11 t6 b4 b5 b6))], []) := by
  rw [e133_3, e133_4]
  unfold tail11
  cases t77 <;> cases t6 <;> try rfl
  simp only [cond_false, Bool.false_eq_true, if_false]
  refine cs (fun h => ?_) (fun h => ?_)
  · simp at h; rw [if_neg (by omega)]
  · simp at h; rw [if_pos (by omega)]

theorem k133_2 (t3 t4 t5 t6 t : Bool) (b0 b1 b2 b3 b4 b5 b6 : Int) : goF E (callOf L125) F133 0 3 P133_2 (M133_2 t3 t4 t5 t6 t b0 b1 b2 b3 b4 b5 b6) =
    some ([.one (.int .i64 (if t = true ∨ ((t5 = true ∨ t6 = true) ∧ (b3 < 1 ∨ 1000 < b3)) ∨ ((t3 = true ∨ t4 = true) ∧ b3 ≠ 0) then 9 else tail11 t6 b4 b5 b6))], []) := by
  rw [e133_2]
  simp only [k133_3]
  cases t <;> cases t5 <;> cases t6 <;> cases t3 <;> cases t4
  all_goals simp only [cond_true, cond_false]
  all_goals repeat' (refine cs (fun _ => ?_) (fun _ => ?_))
  all_goals refine congrArg (fun z => some ([AV.one (AC.int .i64 z)], ([] : List Block))) ?_
  all_goals simp only [bne_iff_ne, decide_eq_true_eq, decide_eq_false_iff_not, Bool.true_eq_false, Bool.false_eq_true, and_true, true_and, false_and, or_false, false_or, true_or, or_true, if_true, if_false, or_self, ne_eq] at *
  all_goals ((repeat' split) <;> first | rfl | omega)

theorem k133_1 (t3 t4 t5 t6 t : Bool) (b0 b1 b2 b3 b4 b5 b6 : Int) : goF E (callOf L125) F133 0 4 P133_1 (M133_1 t3 t4 t5 t6 t b0 b1 b2 b3 b4 b5 b6) =
    some ([.one (.int .i64 (if t = true ∨ ((t3 = true ∨ t5 = true) ∧ (b2 < 1 ∨ 9 < b2)) ∨ ((t4 = true ∨ t6 = true) ∧ b2 ≠ 0) ∨ ((t5 = true ∨ t6 = true) ∧ (b3 < 1 ∨ 1000 < b3)) ∨ ((t3 = true ∨ t4 = true) ∧ b3 ≠ 0) then 9 else tail11 t6 b4 b5 b6))], []) := by
  rw [e133_1]
  simp only [k133_2]
  cases t <;> cases t5 <;> cases t6 <;> cases t3 <;> cases t4
  all_goals simp only [cond_true, cond_false]
  all_goals repeat' (refine cs (fun _ => ?_) (fun _ => ?_))
  all_goals refine congrArg (fun z => some ([AV.one (AC.int .i64 z)], ([] : List Block))) ?_
  all_goals simp only [bne_iff_ne, decide_eq_true_eq, decide_eq_false_iff_not, Bool.true_eq_false, Bool.false_eq_true, and_true, true_and, false_and, or_false, false_or, true_or, or_true, if_true, if_false, or_self, ne_eq] at *
  all_goals ((repeat' split) <;> first | rfl | omega)

theorem k133 (k s w v rk rc rf : Int) : runF E (callOf L125) 6 133 [.agg [.int .i64 k, .int .i64 s, .int .i64 w, .int .i64 v, .int .i64 rk, .int .i64 rc, .int .i64 rf]] [] = some ([.one (.int .i64 (vChange k s w v rk rc rf))], []) := by
  rw [e133]
  simp only [e133_0, k133_1]
  by_cases h1 : k = 1
  · subst h1
    simp only [Int.reduceBEq, Bool.not_true, Bool.not_false, cond_true, cond_false, isServer]
    repeat' (refine cs (fun _ => ?_) (fun _ => ?_))
    all_goals refine congrArg (fun z => some ([AV.one (AC.int .i64 z)], ([] : List Block))) ?_
    all_goals simp only [tail11, Bool.not_eq_true', Bool.not_eq_false', bne_iff_ne, bne_eq_false_iff_eq, decide_eq_true_eq, decide_eq_false_iff_not, Bool.and_eq_true, Bool.and_eq_false_iff, Bool.true_eq_false, Bool.false_eq_true, and_true, true_and, false_and, or_false, false_or, true_or, or_true, if_true, if_false, or_self, ne_eq] at *
    all_goals (unfold vChange; (repeat' split) <;> omega)
  by_cases h2 : k = 2
  · subst h2
    simp only [Int.reduceBEq, Bool.not_true, Bool.not_false, cond_true, cond_false, isServer]
    repeat' (refine cs (fun _ => ?_) (fun _ => ?_))
    all_goals refine congrArg (fun z => some ([AV.one (AC.int .i64 z)], ([] : List Block))) ?_
    all_goals simp only [tail11, Bool.not_eq_true', Bool.not_eq_false', bne_iff_ne, bne_eq_false_iff_eq, decide_eq_true_eq, decide_eq_false_iff_not, Bool.and_eq_true, Bool.and_eq_false_iff, Bool.true_eq_false, Bool.false_eq_true, and_true, true_and, false_and, or_false, false_or, true_or, or_true, if_true, if_false, or_self, ne_eq] at *
    all_goals (unfold vChange; (repeat' split) <;> omega)
  by_cases h3 : k = 3
  · subst h3
    simp only [Int.reduceBEq, Bool.not_true, Bool.not_false, cond_true, cond_false, isServer]
    repeat' (refine cs (fun _ => ?_) (fun _ => ?_))
    all_goals refine congrArg (fun z => some ([AV.one (AC.int .i64 z)], ([] : List Block))) ?_
    all_goals simp only [tail11, Bool.not_eq_true', Bool.not_eq_false', bne_iff_ne, bne_eq_false_iff_eq, decide_eq_true_eq, decide_eq_false_iff_not, Bool.and_eq_true, Bool.and_eq_false_iff, Bool.true_eq_false, Bool.false_eq_true, and_true, true_and, false_and, or_false, false_or, true_or, or_true, if_true, if_false, or_self, ne_eq] at *
    all_goals (unfold vChange; (repeat' split) <;> omega)
  by_cases h4 : k = 4
  · subst h4
    simp only [Int.reduceBEq, Bool.not_true, Bool.not_false, cond_true, cond_false, isServer]
    repeat' (refine cs (fun _ => ?_) (fun _ => ?_))
    all_goals refine congrArg (fun z => some ([AV.one (AC.int .i64 z)], ([] : List Block))) ?_
    all_goals simp only [tail11, Bool.not_eq_true', Bool.not_eq_false', bne_iff_ne, bne_eq_false_iff_eq, decide_eq_true_eq, decide_eq_false_iff_not, Bool.and_eq_true, Bool.and_eq_false_iff, Bool.true_eq_false, Bool.false_eq_true, and_true, true_and, false_and, or_false, false_or, true_or, or_true, if_true, if_false, or_self, ne_eq] at *
    all_goals (unfold vChange; (repeat' split) <;> omega)
  · have g1 : (k == 1) = false := by simpa using h1
    have g2 : (k == 2) = false := by simpa using h2
    have g3 : (k == 3) = false := by simpa using h3
    have g4 : (k == 4) = false := by simpa using h4
    simp only [g1, g2, g3, g4, Bool.not_false, cond_true]
    refine congrArg (fun z => some ([AV.one (AC.int .i64 z)], ([] : List Block))) ?_
    unfold vChange
    rw [if_pos (by omega)]

theorem nat_wrap {i n : Nat} (h : i < n) (hn : n < 9223372036854775808) : IntKind.i64.wrap ((i : Int) + 1) = ((i + 1 : Nat) : Int) := by
  rw [wrap64 (by omega) (by omega)]
  omega

theorem in107 (c : List (List Cell)) (ap np : Int) (hc : c.length < 9223372036854775808) (i : Nat) (hi : i < c.length) (q0 q1 q2 q3 q4 q5 q6 : Int) (R : List AV × List Block)
    (hr : ∃ m, goF E (callOf L133) F107 0 m P107_0 (M107_0 c c.length ((i + 1 : Nat) : Int) ap np c) = some R) : ∀ (d j : Nat), j + d = i →
    ∃ m, goF E (callOf L133) F107 0 m P107_1 (M107_1 c c.length i (c.take i) i j ap np c q0 q1 q2 q3 q4 q5 q6) =
      some (if ((c.take i).drop j).any (fun q => (nr q 0 == q0) && (nr q 1 == q1)) = true then ([.one (.int .i64 5)], []) else R)
  | 0, j, hj => by
    have : j = i := by omega
    subst this
    obtain ⟨m, hm⟩ := hr
    refine ⟨m + 1, ?_⟩
    rw [e107_1]
    refine cf (by simp) ?_
    rw [nat_wrap hi hc, hm]
    have : (c.take j).drop j = [] := List.drop_eq_nil_of_le (by simp; omega)
    simp [this]
  | d + 1, j, hj => by
    have hlen : (c.take i).length = i := by simp; omega
    obtain ⟨m, hm⟩ := in107 c ap np hc i hi q0 q1 q2 q3 q4 q5 q6 R hr d (j + 1) (by omega)
    refine ⟨m + 1, ?_⟩
    rw [e107_1]
    refine ct (by simp; omega) (ct (inB_nat' (by omega)) ?_)
    rw [drop_cons (c.take i) j (by omega), List.any_cons, Int.toNat_natCast, nat_wrap (n := i) (by omega) (by omega), hm]
    show cond (nr (Abs.rowAt (c.take i) j) 0 == q0) (cond (nr (Abs.rowAt (c.take i) j) 1 == q1) _ _) _ = _
    generalize (nr (Abs.rowAt (c.take i) j) 0 == q0) = b1
    generalize (nr (Abs.rowAt (c.take i) j) 1 == q1) = b2
    cases b1 <;> cases b2 <;> simp

theorem out107 (c : List (List Cell)) (ap np : Int) (hc : c.length < 9223372036854775808) : ∀ (d i : Nat), i + d = c.length →
    ∃ m, goF E (callOf L133) F107 0 m P107_0 (M107_0 c c.length i ap np c) = some ([.one (.int .i64 (vChs (c.take i) (c.drop i)))], [])
  | 0, i, hi => by
    refine ⟨1, ?_⟩
    rw [e107_0]
    refine cf (by simp; omega) ?_
    have : c.drop i = [] := List.drop_eq_nil_of_le (by omega)
    rw [this, vChs]
  | d + 1, i, hi => by
    have hlen : (c.take i).length = i := by simp; omega
    obtain ⟨m, hm⟩ := in107 c ap np hc i (by omega) (nr (Abs.rowAt c i) 0) (nr (Abs.rowAt c i) 1) (nr (Abs.rowAt c i) 2) (nr (Abs.rowAt c i) 3) (nr (Abs.rowAt c i) 4) (nr (Abs.rowAt c i) 5) (nr (Abs.rowAt c i) 6) _ (out107 c ap np hc d (i + 1) (by omega)) i 0 (by omega)
    refine ⟨m + 1, ?_⟩
    rw [e107_0]
    refine ct (by simp; omega) (ct (inB_nat' (by omega)) ?_)
    rw [drop_cons c i (by omega), vChs, Int.toNat_natCast]
    show cond (vChR (Abs.rowAt c i) != 0) (some ([AV.one (AC.int .i64 (vChR (Abs.rowAt c i)))], ([] : List Block))) _ = _
    by_cases h0 : vChR (Abs.rowAt c i) = 0
    · rw [if_neg (by simpa using h0)]
      refine cf (by simpa using h0) (ct (inB_of (by omega) (by omega)) ?_)
      rw [takeN_eq, hlen]
      refine Eq.trans hm ?_
      rw [take_snoc c i (by omega), List.drop_zero]
      show some (if dup (c.take i) (Abs.rowAt c i) = true then _ else _) = _
      split <;> rfl
    · rw [if_pos h0]
      exact ct (by simpa using h0) rfl

theorem k107 (a n : Int) (c : List (List Cell)) (hc : c.length < 9223372036854775808) : ∃ m, runF E (callOf L133) m 107 [.agg [.int .i64 a, .int .i64 n, .sl false 89 c]] [] = some ([.one (.int .i64 (vProp a n c))], []) := by
  obtain ⟨m, hm⟩ := out107 c a n hc c.length 0 (by omega)
  refine ⟨m + 1, ?_⟩
  rw [e107]
  rw [List.take_zero, List.drop_zero] at hm
  rw [show (0 : Int) = ((0 : Nat) : Int) from rfl, hm]
  repeat' (refine cs (fun _ => ?_) (fun _ => ?_))
  all_goals refine congrArg (fun z => some ([AV.one (AC.int .i64 z)], ([] : List Block))) ?_
  all_goals simp only [bne_iff_ne, beq_iff_eq, beq_eq_false_iff_ne, decide_eq_true_eq, decide_eq_false_iff_not, ne_eq] at *
  all_goals (unfold vProp; (repeat' split) <;> omega)

theorem in112 (c : List (List Cell)) (ap np : Int) (hc : c.length < 9223372036854775808) (i : Nat) (hi : i < c.length) (R : List AV × List Block)
    (hr : ∃ m, goF E (callOf L107) F112 0 m P112_2 (M112_2 ((i + 1 : Nat) : Int) ap np c) = some R) : ∀ (d j : Nat), j + d = i →
    ∃ m, goF E (callOf L107) F112 0 m P112_6 (M112_6 i j ap np c) =
      some (if ((c.take i).drop j).any (sameCh (Abs.rowAt c i)) = true then ([.one (.int .i64 5)], []) else R)
  | 0, j, hj => by
    have : j = i := by omega
    subst this
    obtain ⟨m, hm⟩ := hr
    refine ⟨m + 2, ?_⟩
    rw [e112_6]
    refine cf (by simp) ?_
    rw [e112_8, nat_wrap hi hc, hm]
    have : (c.take j).drop j = [] := List.drop_eq_nil_of_le (by simp; omega)
    simp [this]
  | d + 1, j, hj => by
    have hlen : (c.take i).length = i := by simp; omega
    obtain ⟨m, hm⟩ := in112 c ap np hc i hi R hr d (j + 1) (by omega)
    refine ⟨m + 4, ?_⟩
    rw [e112_6]
    refine ct (by simp; omega) ?_
    rw [e112_7]
    refine ct (inB_nat' (by omega)) (ct (inB_nat' (by omega)) ?_)
    rw [drop_cons (c.take i) j (by omega), List.any_cons, rowAt_take c i j (by omega), Int.toNat_natCast, Int.toNat_natCast]
    have hn : goF E (callOf L107) F112 0 (m + 1) P112_10 (M112_10 i j ap np c) = some (if ((c.take i).drop (j + 1)).any (sameCh (Abs.rowAt c i)) = true then ([.one (.int .i64 5)], []) else R) := by
      rw [e112_10, nat_wrap (n := i) (by omega) (by omega), hm]
    simp only [e112_9, hn]
    unfold sameCh
    show cond (nr (Abs.rowAt c j) 0 == nr (Abs.rowAt c i) 0) (cond _ (cond _ (cond (nr (Abs.rowAt c j) 1 == nr (Abs.rowAt c i) 1) _ _) _) _) _ = _
    rw [inB_nat' (by omega : j < c.length), inB_nat' (by omega : i < c.length)]
    generalize (nr (Abs.rowAt c j) 0 == nr (Abs.rowAt c i) 0) = b1
    generalize (nr (Abs.rowAt c j) 1 == nr (Abs.rowAt c i) 1) = b2
    cases b1 <;> cases b2 <;> simp

theorem out112 (c : List (List Cell)) (ap np : Int) (hc : c.length < 9223372036854775808) : ∀ (d i : Nat), i + d = c.length →
    ∃ m, goF E (callOf L107) F112 0 m P112_2 (M112_2 i ap np c) = some ([.one (.int .i64 (vChs (c.take i) (c.drop i)))], [])
  | 0, i, hi => by
    refine ⟨2, ?_⟩
    rw [e112_2]
    refine cf (by simp; omega) ?_
    have : c.drop i = [] := List.drop_eq_nil_of_le (by omega)
    rw [this, vChs, e112_4]
  | d + 1, i, hi => by
    have hlen : (c.take i).length = i := by simp; omega
    obtain ⟨m, hm⟩ := in112 c ap np hc i (by omega) _ (out112 c ap np hc d (i + 1) (by omega)) i 0 (by omega)
    refine ⟨m + 3, ?_⟩
    rw [e112_2]
    refine ct (by simp; omega) ?_
    rw [e112_3]
    refine ct (inB_nat' (by omega)) ?_
    rw [drop_cons c i (by omega), vChs, Int.toNat_natCast]
    show cond (vChR (Abs.rowAt c i) != 0) (some ([AV.one (AC.int .i64 (vChR (Abs.rowAt c i)))], ([] : List Block))) _ = _
    by_cases h0 : vChR (Abs.rowAt c i) = 0
    · rw [if_neg (by simpa using h0)]
      refine cf (by simpa using h0) ?_
      rw [e112_5]
      refine Eq.trans hm ?_
      rw [take_snoc c i (by omega), List.drop_zero]
      show some (if dup (c.take i) (Abs.rowAt c i) = true then _ else _) = _
      split <;> rfl
    · rw [if_pos h0]
      exact ct (by simpa using h0) rfl

theorem k112 (a n : Int) (c : List (List Cell)) (hc : c.length < 9223372036854775808) : ∃ m, runF E (callOf L107) m 112 [.agg [.int .i64 a, .int .i64 n, .sl false 89 c]] [] = some ([.one (.int .i64 (vProp a n c))], []) := by
  obtain ⟨m, hm⟩ := out112 c a n hc c.length 0 (by omega)
  refine ⟨m + 3, ?_⟩
  rw [e112]
  rw [List.take_zero, List.drop_zero] at hm
  simp only [e112_0, e112_1, show (0 : Int) = ((0 : Nat) : Int) from rfl, hm]
  simp only [isAdmin]
  repeat' (refine cs (fun _ => ?_) (fun _ => ?_))
  all_goals refine congrArg (fun z => some ([AV.one (AC.int .i64 z)], ([] : List Block))) ?_
  all_goals simp only [bne_iff_ne, beq_iff_eq, beq_eq_false_iff_ne, decide_eq_true_eq, decide_eq_false_iff_not, ne_eq, Bool.not_eq_true', Bool.not_eq_false', Bool.and_eq_true, Bool.and_eq_false_iff, Bool.true_eq_false, Bool.false_eq_true] at *
  all_goals (unfold vProp; (repeat' split) <;> omega)

theorem k140 (n : Int) : runF E (callOf L112) 1 140 [.one (.int .i64 n)] [] = some ([.one (.bool false)], []) := by
  rw [e140]; simp

theorem k127 (x y : Int) : runF E (callOf L140) 1 127 [.one (.int .i64 x), .one (.int .i64 y)] [] = some ([.one (.int .i64 (cmpI x y))], []) := by
  rw [e127]
  repeat' (refine cs (fun _ => ?_) (fun _ => ?_))
  all_goals refine congrArg (fun z => some ([AV.one (AC.int .i64 z)], ([] : List Block))) ?_
  all_goals simp only [decide_eq_true_eq, decide_eq_false_iff_not, Bool.true_eq_false, Bool.false_eq_true] at *
  all_goals (unfold cmpI; (repeat' split) <;> omega)

theorem l126 (l : List (List Cell)) (hl : l.length < 9223372036854775808) : ∀ (d i : Nat), i + d = l.length →
    ∃ m, goF E (callOf L127) F126 0 m P126_0 (M126_0 0 l l.length i) = some ([.one (.int .i64 (orI1 (l.drop i)))], [])
  | 0, i, hi => by
    refine ⟨1, ?_⟩
    rw [e126_0]
    refine cf (by simp; omega) ?_
    have : l.drop i = [] := List.drop_eq_nil_of_le (by omega)
    rw [this, orI1]
  | d + 1, i, hi => by
    obtain ⟨m, hm⟩ := l126 l hl d (i + 1) (by omega)
    refine ⟨m + 1, ?_⟩
    rw [e126_0]
    refine ct (by simp; omega) (ct (inB_nat' (by omega)) ?_)
    rw [drop_cons l i (by omega), orI1, Int.toNat_natCast, nat_wrap (n := l.length) (by omega) hl, hm]
    show cond (nr (Abs.rowAt l i) 0 != 0) (some ([AV.one (AC.int .i64 (nr (Abs.rowAt l i) 0))], ([] : List Block))) _ = _
    by_cases h0 : nr (Abs.rowAt l i) 0 = 0
    · rw [if_neg (by simpa using h0)]
      exact cf (by simpa using h0) rfl
    · rw [if_pos h0]
      exact ct (by simpa using h0) rfl

theorem k126 (l : List (List Cell)) (hl : l.length < 9223372036854775808) : ∃ m, runF E (callOf L127) m 126 [.one (.sl false 3 l)] [] = some ([.one (.int .i64 (orI1 l))], []) := by
  obtain ⟨m, hm⟩ := l126 l hl l.length 0 (by omega)
  exact ⟨m + 1, by rw [e126]; exact hm⟩

theorem k108 (a n : Int) (c : List (List Cell)) (b k : Int) (d : List (List Cell)) : runF E (callOf L126) 1 108 [.agg [.int .i64 a, .int .i64 n, .sl false 89 c], .agg [.int .i64 b, .int .i64 k, .sl false 89 d]] [] = some ([.one (.int .i64 (cmpP a n b k))], []) := by
  rw [e108]
  refine ct (by simp) ?_
  refine congrArg (fun z => some ([AV.one (AC.int .i64 z)], ([] : List Block))) ?_
  simp only [orI1, nr, cellAt, Cell.toInt, cmpI, cmpP]
  (repeat' split) <;> omega

theorem k113 (a n : Int) (c : List (List Cell)) (b k : Int) (d : List (List Cell)) : runF E (callOf L108) 1 113 [.agg [.int .i64 a, .int .i64 n, .sl false 89 c], .agg [.int .i64 b, .int .i64 k, .sl false 89 d]] [] = some ([.one (.int .i64 (cmpP a n b k))], []) := by
  rw [e113]
  repeat' (refine cs (fun _ => ?_) (fun _ => ?_))
  all_goals refine congrArg (fun z => some ([AV.one (AC.int .i64 z)], ([] : List Block))) ?_
  all_goals simp only [beq_iff_eq, beq_eq_false_iff_ne, decide_eq_true_eq, decide_eq_false_iff_not, ne_eq] at *
  all_goals (unfold cmpP; (repeat' split) <;> omega)

theorem l91 (c d : List (List Cell)) (a n b k : Int) (hc : c.length < 9223372036854775808) (hd : c.length = d.length) : ∀ (e i : Nat), i + e = c.length →
    ∃ m, goF E (callOf L113) F91 0 m P91_0 (M91_0 i a n c b k d) = some ([.one (.bool (eqChs (c.drop i) (d.drop i)))], [])
  | 0, i, hi => by
    refine ⟨1, ?_⟩
    rw [e91_0]
    refine cf (by simp; omega) ?_
    have : c.drop i = [] := List.drop_eq_nil_of_le (by omega)
    rw [this, eqChs]
  | e + 1, i, hi => by
    obtain ⟨m, hm⟩ := l91 c d a n b k hc hd e (i + 1) (by omega)
    refine ⟨m + 1, ?_⟩
    rw [e91_0]
    refine ct (by simp; omega) (ct (inB_nat' (by omega)) (ct (inB_nat' (by omega)) ?_))
    rw [drop_cons c i (by omega), eqChs, Int.toNat_natCast, nat_wrap (n := c.length) (by omega) hc, hm, rowAt_drop, List.drop_drop]
    have hE : (((nr (Abs.rowAt c i) 0) == (nr (Abs.rowAt d i) 0)) && (((nr (Abs.rowAt c i) 1) == (nr (Abs.rowAt d i) 1)) && (((nr (Abs.rowAt c i) 2) == (nr (Abs.rowAt d i) 2)) && (((nr (Abs.rowAt c i) 3) == (nr (Abs.rowAt d i) 3)) && (((nr (Abs.rowAt c i) 4) == (nr (Abs.rowAt d i) 4)) && (((nr (Abs.rowAt c i) 5) == (nr (Abs.rowAt d i) 5)) && (((nr (Abs.rowAt c i) 6) == (nr (Abs.rowAt d i) 6)) && true))))))) = eqChR (Abs.rowAt c i) (Abs.rowAt d i) := by
      simp only [eqChR, eqCh, Bool.and_assoc, Bool.and_true]
    refine Eq.trans (congrArg (fun b => cond (!b) (some ([AV.one (AC.bool false)], ([] : List Block))) _) hE) ?_
    rw [Nat.add_zero]
    generalize eqChR (Abs.rowAt c i) (Abs.rowAt d i) = b1
    cases b1 <;> rfl

theorem k91 (a n : Int) (c : List (List Cell)) (b k : Int) (d : List (List Cell)) (hc : c.length < 9223372036854775808) : ∃ m, runF E (callOf L113) m 91 [.agg [.int .i64 a, .int .i64 n, .sl false 89 c], .agg [.int .i64 b, .int .i64 k, .sl false 89 d]] [] =
    some ([.one (.bool (eqP a n c b k d))], []) := by
  by_cases hd : c.length = d.length
  · obtain ⟨m, hm⟩ := l91 c d a n b k hc hd c.length 0 (by omega)
    refine ⟨m + 1, ?_⟩
    rw [e91, show (0 : Int) = ((0 : Nat) : Int) from rfl, hm]
    unfold eqP bne
    rw [List.drop_zero, List.drop_zero]
    generalize (a == b) = b1
    generalize (n == k) = b2
    generalize eqChs c d = b3
    rw [show ((c.length : Int) == (d.length : Int)) = true by simp; omega, decide_eq_true hd]
    cases b1 <;> cases b2 <;> cases b3 <;> rfl
  · refine ⟨1, ?_⟩
    rw [e91]
    unfold eqP bne
    generalize (a == b) = b1
    generalize (n == k) = b2
    rw [show ((c.length : Int) == (d.length : Int)) = false by simp; omega, decide_eq_false hd]
    cases b1 <;> cases b2 <;> rfl

theorem cmpP_cases (a n b m : Int) : (cmpP a n b m = -1 ∧ (a < b ∨ (a = b ∧ n < m))) ∨ (cmpP a n b m = 0 ∧ a = b ∧ n = m) ∨ (cmpP a n b m = 1 ∧ (b < a ∨ (a = b ∧ m < n))) := by
  unfold cmpP
  (repeat' split) <;> omega

theorem eqChs_refl : ∀ c : List (List Cell), eqChs c c = true
  | [] => rfl
  | r :: c => by
    have : eqChR r r = true := by simp [eqChR, eqCh]
    rw [eqChs]
    show (eqChR r r && eqChs c c) = true
    rw [this, eqChs_refl c]
    rfl

theorem eqP_refl (a n : Int) (c : List (List Cell)) : eqP a n c a n c = true := by
  simp [eqP, eqChs_refl]

theorem fits_of {n : Nat} (h : n ≤ 4294967296) : fits n = true := by
  unfold fits LIM
  exact Nat.ble_eq_true_of_le h

theorem okRd_of {x : List (List Cell)} (h : okRd x = true) : okB x = true ∧ x.length ≤ 4000000 := by
  unfold okRd okLen at h
  simpa using h

theorem okRd_mk {x : List (List Cell)} (h1 : okB x = true) (h2 : x.length ≤ 4000000) : okRd x = true := by
  unfold okRd okLen
  simp [h1, h2]

theorem okRd_drop {x : List (List Cell)} (h : okRd x = true) (n : Nat) : okRd (x.drop n) = true :=
  okRd_mk (okB_drop (okRd_of h).1 n) (by have := (okRd_of h).2; simp; omega)

def rd3 (r : Int × Int × Int) : List AV × List Block := ([.one (.int .u64 r.1), .one (.int .i64 r.2.1), .one (.int .i64 r.2.2)], [])

theorem udecF_step (k i : Nat) (acc : Int) (x : List (List Cell)) (hi : i < x.length) : udecF (k + 1) i acc (x.drop i) =
    if k = 0 ∧ 1 < nr (Abs.rowAt x i) 0 then (0, 0, 9)
    else if nr (Abs.rowAt x i) 0 < 128 then (if nr (Abs.rowAt x i) 0 = 0 ∧ 0 < i then (0, 0, 2) else (acc + nr (Abs.rowAt x i) 0 * 128 ^ i, (i : Int) + 1, 0))
    else udecF k ((i + 1 : Nat) : Int) (acc + (nr (Abs.rowAt x i) 0 - 128) * 128 ^ i) (x.drop (i + 1)) := by
  rw [drop_cons x i hi, udecF]
  simp only [Int.toNat_natCast]
  rw [show ((i : Int) + 1) = ((i + 1 : Nat) : Int) by omega]
  simp only [Int.natCast_pos]

theorem l76 (x : List (List Cell)) (hx : okRd x = true) : ∀ (k i : Nat) (acc : Int), i + k = 9 → 1 ≤ i → i ≤ x.length → 0 ≤ acc → acc < 128 ^ i →
    ∃ m, goF E (callOf L91) F76 0 m P76_0 (M76_0 x acc i) = some (rd3 (udecF (k + 1) i acc (x.drop i))) := by
  intro k
  induction k with
  | zero =>
    intro i acc hi h1 hl h0 hacc
    have h9 : i = 9 := by omega
    subst h9
    by_cases hend : 9 = x.length
    · refine ⟨1, ?_⟩
      rw [e76_0]
      refine ct (by simp; omega) ?_
      have : x.drop 9 = [] := List.drop_eq_nil_of_le (by omega)
      rw [this, udecF]
      rfl
    · refine ⟨1, ?_⟩
      obtain ⟨c0, c1⟩ := okB_at (okRd_of hx).1 (i := 9) (by omega)
      rw [e76_0, udecF_step 0 9 acc x (by omega)]
      refine cf (by simp; omega) (ct (inB_nat' (by omega)) (ct (by simp) ?_))
      simp only [Int.toNat_natCast]
      by_cases hc : 1 < nr (Abs.rowAt x 9) 0
      · rw [if_pos ⟨by trivial, hc⟩]
        exact ct (decide_eq_true hc) rfl
      · rw [if_neg (fun h => hc h.2), if_pos (by omega)]
        refine cf (decide_eq_false hc) ?_
        rw [wrap64 (n := 7 * ((9 : Nat) : Int)) (by omega) (by omega), wrap64 (n := ((9 : Nat) : Int) + 1) (by omega) (by omega)]
        refine cf (by decide) ?_
        refine cf (decide_eq_false (by omega)) ?_
        by_cases hz : nr (Abs.rowAt x 9) 0 = 0
        · rw [if_pos ⟨hz, by omega⟩]
          exact ct (by simpa using hz) (ct (by decide) rfl)
        · rw [if_neg (fun h => hz h.1)]
          refine cf (by simpa using hz) ?_
          rw [andNot8 c0 c1, wrapu (by omega) (by omega), show nr (Abs.rowAt x 9) 0 % 128 = nr (Abs.rowAt x 9) 0 by omega]
          have := (step64 (i := 9) h0 hacc c0 (by omega) (by omega) (fun _ => by omega)).1
          rw [show (7 * ((9 : Nat) : Int)) = ((7 * 9 : Nat) : Int) by omega, this]
          rfl
  | succ k ih =>
    intro i acc hi h1 hl h0 hacc
    by_cases hend : i = x.length
    · refine ⟨1, ?_⟩
      rw [e76_0]
      refine ct (by simp; omega) ?_
      have : x.drop i = [] := List.drop_eq_nil_of_le (by omega)
      rw [this, udecF]
      rfl
    · obtain ⟨c0, c1⟩ := okB_at (okRd_of hx).1 (i := i) (by omega)
      have hs := step64 (c := nr (Abs.rowAt x i) 0 % 128) (i := i) h0 hacc (by omega) (by omega) (by omega) (fun h => by omega)
      have hw : IntKind.u64.wrap (andNotI .u8 (nr (Abs.rowAt x i) 0) 128) = nr (Abs.rowAt x i) 0 % 128 := by
        rw [andNot8 c0 c1, wrapu (by omega) (by omega)]
      rw [udecF_step (k + 1) i acc x (by omega), if_neg (by omega)]
      by_cases hc : nr (Abs.rowAt x i) 0 < 128
      · refine ⟨1, ?_⟩
        rw [e76_0]
        refine cf (by simp; omega) (ct (inB_nat' (by omega)) (cf (by simp; omega) ?_))
        rw [wrap64 (n := 7 * (i : Int)) (by omega) (by omega), wrap64 (n := (i : Int) + 1) (by omega) (by omega), Int.toNat_natCast]
        refine cf (decide_eq_false (by omega)) ?_
        refine cf (decide_eq_false (by omega)) ?_
        rw [if_pos hc]
        by_cases hz : nr (Abs.rowAt x i) 0 = 0
        · rw [if_pos ⟨hz, by omega⟩]
          exact ct (by simpa using hz) (ct (decide_eq_true (by omega)) rfl)
        · rw [if_neg (fun h => hz h.1)]
          refine cf (by simpa using hz) ?_
          rw [hw, show (7 * (i : Int)) = ((7 * i : Nat) : Int) by omega, hs.1, show nr (Abs.rowAt x i) 0 % 128 = nr (Abs.rowAt x i) 0 by omega]
          rfl
      · rw [if_neg hc]
        obtain ⟨m, hm⟩ := ih (i + 1) (acc + (nr (Abs.rowAt x i) 0 % 128) * 128 ^ i) (by omega) (by omega) (by omega) hs.2.1 hs.2.2.1
        refine ⟨m + 1, ?_⟩
        rw [e76_0]
        refine cf (by simp; omega) (ct (inB_nat' (by omega)) (cf (by simp; omega) ?_))
        rw [wrap64 (n := 7 * (i : Int)) (by omega) (by omega), wrap64 (n := (i : Int) + 1) (by omega) (by omega), Int.toNat_natCast]
        refine cf (decide_eq_false (by omega)) ?_
        refine ct (decide_eq_true (by omega)) ?_
        rw [hw, show (7 * (i : Int)) = ((7 * i : Nat) : Int) by omega, hs.1, show (i : Int) + 1 = ((i + 1 : Nat) : Int) by omega, hm, show nr (Abs.rowAt x i) 0 % 128 = nr (Abs.rowAt x i) 0 - 128 by omega]

theorem k76 (x : List (List Cell)) (hx : okRd x = true) : ∃ m, runF E (callOf L91) m 76 [.one (.sl false 5 x)] [] = some (rd3 (udec x)) := by
  unfold udec
  by_cases hend : x.length = 0
  · refine ⟨1, ?_⟩
    rw [e76]
    refine ct (by simp; omega) ?_
    rw [List.length_eq_zero_iff.1 hend, udecF]
    rfl
  · obtain ⟨c0, c1⟩ := okB_at (okRd_of hx).1 (i := 0) (by omega)
    have hs := step64 (acc := 0) (c := nr (Abs.rowAt x 0) 0 % 128) (i := 0) (by omega) (by simp) (by omega) (by omega) (by omega) (fun h => by omega)
    have hw : IntKind.u64.wrap (andNotI .u8 (nr (Abs.rowAt x 0) 0) 128) = nr (Abs.rowAt x 0) 0 % 128 := by
      rw [andNot8 c0 c1, wrapu (by omega) (by omega)]
    have hu := udecF_step 9 0 0 x (by omega)
    rw [List.drop_zero] at hu
    simp only [Int.ofNat_zero] at hu
    rw [hu, if_neg (by omega)]
    have hs1 : orI .u64 0 (shlI .u64 (nr (Abs.rowAt x 0) 0 % 128) 0) = nr (Abs.rowAt x 0) 0 % 128 := by
      have := hs.1
      simpa using this
    by_cases hc : nr (Abs.rowAt x 0) 0 < 128
    · refine ⟨1, ?_⟩
      rw [e76, if_pos hc, if_neg (by omega)]
      refine cf (by simp; omega) (ct (inB_of (by omega) (by omega)) ?_)
      refine cf (decide_eq_false (by omega)) ?_
      rw [hw, hs1, show nr (Abs.rowAt x 0) 0 % 128 = nr (Abs.rowAt x 0) 0 by omega]
      generalize nr (Abs.rowAt x 0) 0 = c
      unfold rd3
      cases (c == 0) <;> simp
    · obtain ⟨m, hm⟩ := l76 x hx 8 1 (nr (Abs.rowAt x 0) 0 % 128) (by omega) (by omega) (by omega) (by omega) (by simp; omega)
      refine ⟨m + 1, ?_⟩
      rw [e76, if_neg hc]
      refine cf (by simp; omega) (ct (inB_of (by omega) (by omega)) ?_)
      refine ct (decide_eq_true (by omega)) ?_
      rw [hw, hs1]
      refine Eq.trans hm ?_
      congr 2
      rw [show nr (Abs.rowAt x 0) 0 % 128 = 0 + (nr (Abs.rowAt x 0) 0 - 128) * 128 ^ 0 by simp; omega]

theorem l85 (x : List (List Cell)) (hx : okRd x = true) : ∀ (k i : Nat) (acc : Int), i + k = 9 → i ≤ x.length → 0 ≤ acc → acc < 128 ^ i →
    ∃ m, goF E (callOf L76) F85 0 m P85_0 (M85_0 x acc i) = some (rd3 (udecF (k + 1) i acc (x.drop i))) := by
  intro k
  induction k with
  | zero =>
    intro i acc hi hl h0 hacc
    have h9 : i = 9 := by omega
    subst h9
    refine ⟨1, ?_⟩
    rw [e85_0]
    refine ct (by simp) ?_
    by_cases hend : 9 = x.length
    · refine ct (by simp; omega) ?_
      have : x.drop 9 = [] := List.drop_eq_nil_of_le (by omega)
      rw [this, udecF]
      rfl
    · obtain ⟨c0, c1⟩ := okB_at (okRd_of hx).1 (i := 9) (by omega)
      rw [udecF_step 0 9 acc x (by omega)]
      refine cf (by simp; omega) (ct (by simp) (ct (inB_nat' (by omega)) ?_))
      simp only [Int.toNat_natCast]
      by_cases hc : 1 < nr (Abs.rowAt x 9) 0
      · rw [if_pos ⟨by trivial, hc⟩]
        exact ct (decide_eq_true hc) rfl
      · rw [if_neg (fun h => hc h.2), if_pos (by omega)]
        refine cf (decide_eq_false hc) ?_
        rw [inB_nat' (by omega : 9 < x.length), wrap64 (n := 7 * ((9 : Nat) : Int)) (by omega) (by omega), wrap64 (n := ((9 : Nat) : Int) + 1) (by omega) (by omega), wrapu (n := 7 * ((9 : Nat) : Int)) (by omega) (by omega)]
        refine ct rfl (cf (by decide) (ct rfl ?_))
        refine ct (decide_eq_true (by omega)) (ct rfl ?_)
        by_cases hz : nr (Abs.rowAt x 9) 0 = 0
        · rw [if_pos ⟨hz, by omega⟩]
          exact ct (by simpa using hz) (ct (by decide) rfl)
        · rw [if_neg (fun h => hz h.1)]
          refine cf (by simpa using hz) ?_
          rw [Int.tmod_eq_emod_of_nonneg c0, wrapu (n := nr (Abs.rowAt x 9) 0 % 128) (by omega) (by omega), show nr (Abs.rowAt x 9) 0 % 128 = nr (Abs.rowAt x 9) 0 by omega]
          have := (step64 (i := 9) h0 hacc c0 (by omega) (by omega) (fun _ => by omega)).1
          rw [show (7 * ((9 : Nat) : Int)) = ((7 * 9 : Nat) : Int) by omega, this]
          rfl
  | succ k ih =>
    intro i acc hi hl h0 hacc
    by_cases hend : i = x.length
    · refine ⟨1, ?_⟩
      rw [e85_0]
      refine ct (decide_eq_true (by omega)) (ct (by simp; omega) ?_)
      have : x.drop i = [] := List.drop_eq_nil_of_le (by omega)
      rw [this, udecF]
      rfl
    · obtain ⟨c0, c1⟩ := okB_at (okRd_of hx).1 (i := i) (by omega)
      have hs := step64 (c := nr (Abs.rowAt x i) 0 % 128) (i := i) h0 hacc (by omega) (by omega) (by omega) (fun h => by omega)
      have hw : IntKind.u64.wrap (Int.tmod (nr (Abs.rowAt x i) 0) 128) = nr (Abs.rowAt x i) 0 % 128 := by
        rw [Int.tmod_eq_emod_of_nonneg c0, wrapu (by omega) (by omega)]
      rw [udecF_step (k + 1) i acc x (by omega), if_neg (by omega)]
      by_cases hc : nr (Abs.rowAt x i) 0 < 128
      · refine ⟨1, ?_⟩
        rw [e85_0]
        rw [inB_nat' (by omega : i < x.length), wrap64 (n := 7 * (i : Int)) (by omega) (by omega), wrap64 (n := (i : Int) + 1) (by omega) (by omega), wrapu (n := 7 * (i : Int)) (by omega) (by omega), Int.toNat_natCast]
        refine ct (decide_eq_true (by omega)) (cf (by simp; omega) (cf (by simp; omega) (ct rfl (cf (decide_eq_false (by omega)) (ct rfl ?_)))))
        refine ct (decide_eq_true hc) (ct rfl ?_)
        rw [if_pos hc, hw, show (7 * (i : Int)) = ((7 * i : Nat) : Int) by omega, hs.1, show nr (Abs.rowAt x i) 0 % 128 = nr (Abs.rowAt x i) 0 by omega]
        by_cases hz : nr (Abs.rowAt x i) 0 = 0
        · refine ct (by simpa using hz) ?_
          by_cases hp : 0 < i
          · rw [if_pos ⟨hz, hp⟩]
            exact ct (decide_eq_true (by omega)) rfl
          · rw [if_neg (fun h => hp h.2)]
            exact cf (decide_eq_false (by omega)) rfl
        · rw [if_neg (fun h => hz h.1)]
          exact cf (by simpa using hz) rfl
      · rw [if_neg hc]
        obtain ⟨m, hm⟩ := ih (i + 1) (acc + (nr (Abs.rowAt x i) 0 % 128) * 128 ^ i) (by omega) (by omega) hs.2.1 hs.2.2.1
        refine ⟨m + 1, ?_⟩
        rw [e85_0]
        rw [inB_nat' (by omega : i < x.length), wrap64 (n := 7 * (i : Int)) (by omega) (by omega), wrap64 (n := (i : Int) + 1) (by omega) (by omega), wrapu (n := 7 * (i : Int)) (by omega) (by omega), Int.toNat_natCast]
        refine ct (decide_eq_true (by omega)) (cf (by simp; omega) (cf (by simp; omega) (ct rfl (cf (decide_eq_false (by omega)) (ct rfl ?_)))))
        refine cf (decide_eq_false hc) ?_
        rw [hw, show (7 * (i : Int)) = ((7 * i : Nat) : Int) by omega, hs.1, show (i : Int) + 1 = ((i + 1 : Nat) : Int) by omega, hm, show nr (Abs.rowAt x i) 0 % 128 = nr (Abs.rowAt x i) 0 - 128 by omega]

theorem k85 (x : List (List Cell)) (hx : okRd x = true) : ∃ m, runF E (callOf L76) m 85 [.one (.sl false 5 x)] [] = some (rd3 (udec x)) := by
  obtain ⟨m, hm⟩ := l85 x hx 9 0 0 (by omega) (by omega) (by omega) (by simp)
  exact ⟨m + 1, by rw [e85]; exact hm⟩

theorem udecF_bound : ∀ (k : Nat) (i acc : Int) (l : List (List Cell)), 0 ≤ acc → 0 ≤ i → (∀ r ∈ l, 0 ≤ nr r 0) → (udecF k i acc l).2.2 = 0 → i < (udecF k i acc l).2.1 ∧ (udecF k i acc l).2.1 ≤ i + l.length ∧ 0 ≤ (udecF k i acc l).1
  | 0, _, _, _, _, _, _, h => by simp [udecF] at h
  | k + 1, _, _, [], _, _, _, h => by simp [udecF] at h
  | k + 1, i, acc, r :: rs, ha, hi, hl, h => by
    have h0 := hl r (List.mem_cons_self)
    have hp : (0 : Int) < 128 ^ i.toNat := Int.pow_pos (by decide)
    unfold udecF at h ⊢
    split
    · rw [if_pos (by assumption)] at h; simp at h
    · rw [if_neg (by assumption)] at h
      split
      · rw [if_pos (by assumption)] at h
        split
        · rw [if_pos (by assumption)] at h; simp at h
        · have := Int.mul_nonneg h0 (Int.le_of_lt hp)
          simp only [List.length_cons]
          omega
      · rw [if_neg (by assumption)] at h
        have := Int.mul_nonneg (show 0 ≤ nr r 0 - 128 by omega) (Int.le_of_lt hp)
        have := udecF_bound k (i + 1) (acc + (nr r 0 - 128) * 128 ^ i.toNat) rs (by omega) (by omega) (fun r hr => hl r (List.mem_cons_of_mem _ hr)) h
        simp only [List.length_cons]
        omega

theorem okB_nonneg {x : List (List Cell)} (h : okB x = true) : ∀ r ∈ x, 0 ≤ nr r 0 := fun r hr => (isByte_nr (List.all_eq_true.1 h r hr)).1

theorem udec_bound {x : List (List Cell)} (hx : okB x = true) (h : (udec x).2.2 = 0) : 0 < (udec x).2.1 ∧ (udec x).2.1 ≤ x.length ∧ 0 ≤ (udec x).1 := by
  have := udecF_bound 10 0 0 x (by omega) (by omega) (okB_nonneg hx) h
  unfold udec
  omega

theorem rnum2_bound {x : List (List Cell)} (hx : okB x = true) (h : (rnum2 x).2.2 = 0) : 0 < (rnum2 x).2.1 ∧ (rnum2 x).2.1 ≤ x.length ∧ 0 ≤ (rnum2 x).1 ∧ (rnum2 x).1 ≤ 2147483647 := by
  unfold rnum2 at h ⊢
  split
  · rw [if_pos (by assumption)] at h
    simp at h
    omega
  · rename_i h1
    rw [if_neg h1] at h
    split
    · rw [if_pos (by assumption)] at h; simp at h
    · have := udec_bound hx (by omega)
      omega

theorem k33 (x : List (List Cell)) (hx : okRd x = true) : runF E (callOf L116) 1 33 [.one (.sl false 5 x)] [] = some ([.one (.int .i64 (rnum2 x).1), .one (.int .i64 (rnum2 x).2.1), .one (.int .i64 (rnum2 x).2.2)], []) := by
  rw [e33]
  refine ct hx ?_
  unfold rnum2
  by_cases h : (udec x).2.2 = 0
  · refine cf (by simpa using h) ?_
    rw [if_neg (by simpa using h)]
    by_cases h1 : 2147483647 < (udec x).1
    · rw [if_pos h1]
      exact ct (decide_eq_true h1) rfl
    · rw [if_neg h1]
      refine cf (decide_eq_false h1) ?_
      have := udec_bound (okRd_of hx).1 h
      rw [wrap64 (by omega) (by omega), h]
  · rw [if_pos h]
    exact ct (by simpa using h) rfl

theorem okAt_of {x : List (List Cell)} {o : Int} (h : okAt x o = true) : okRd x = true ∧ 0 ≤ o ∧ o ≤ x.length := by
  unfold okAt at h
  unfold okRd
  simp only [Bool.and_eq_true, decide_eq_true_eq] at h ⊢
  exact ⟨⟨h.1, h.2.1⟩, h.2.2⟩

theorem okAt_mk {x : List (List Cell)} {o : Int} (h : okRd x = true) (h0 : 0 ≤ o) (h1 : o ≤ x.length) : okAt x o = true := by
  unfold okAt
  unfold okRd at h
  simp only [Bool.and_eq_true, decide_eq_true_eq] at h ⊢
  exact ⟨h.1, h.2, h0, h1⟩

theorem rnum_at {b : List (List Cell)} {o e : Int} (h : okAt b o = true) : okAt b (rnum b o e).2.1 = true := by
  obtain ⟨h1, h2, h3⟩ := okAt_of h
  unfold rnum
  split
  · exact h
  · split
    · exact h
    · rename_i h4
      have := rnum2_bound (okB_drop (okRd_of h1).1 o.toNat) (by simpa using h4)
      rw [List.length_drop] at this
      exact okAt_mk h1 (by simp only; omega) (by simp only; omega)

theorem k134 (b : List (List Cell)) (o e : Int) (h : okAt b o = true) : runF E (callOf L85) 1 134 [.one (.ptr 0 0)] [.var [.sl false 5 b, .int .i64 o, .int .i64 e]] =
    some ([.one (.int .i64 (rnum b o e).1)], [.var [.sl false 5 b, .int .i64 (rnum b o e).2.1, .int .i64 (rnum b o e).2.2]]) := by
  obtain ⟨h1, h2, h3⟩ := okAt_of h
  have h4 := okRd_drop h1 o.toNat
  rw [e134]
  unfold rnum
  by_cases he : e = 0
  · subst he
    rw [if_neg (by simp)]
    refine cf (by simp) (ct (inB_of h2 (by omega)) ?_)
    rw [dropN_eq]
    refine ct h4 ?_
    have hl := (okRd_of h1).2
    by_cases hd : (udec (b.drop o.toNat)).2.2 = 0
    · refine cf (by simpa using hd) ?_
      have hb := udec_bound (okRd_of h4).1 hd
      rw [List.length_drop] at hb
      by_cases hbig : 2147483647 < (udec (b.drop o.toNat)).1
      · refine ct (decide_eq_true hbig) ?_
        have e : rnum2 (b.drop o.toNat) = (0, 0, 9) := by
          unfold rnum2
          rw [if_neg (by simpa using hd), if_pos hbig]
        rw [e]
        rfl
      · refine cf (decide_eq_false hbig) ?_
        have e : rnum2 (b.drop o.toNat) = udec (b.drop o.toNat) := by
          unfold rnum2
          rw [if_neg (by simpa using hd), if_neg hbig]
        rw [e, if_neg (by simpa using hd), wrap64 (by omega) (by omega), wrap64 (by omega) (by omega)]
    · refine ct (by simpa using hd) ?_
      have e : rnum2 (b.drop o.toNat) = (0, 0, (udec (b.drop o.toNat)).2.2) := by
        unfold rnum2
        rw [if_pos hd]
      rw [e, if_pos (by simpa using hd)]
  · rw [if_pos he]
    exact ct (by simpa using he) rfl

theorem l34 (x : List (List Cell)) (hx : okRd x = true) (c : Int) (hc : c ≤ 1000) : ∀ (d i : Nat) (o : Int) (acc : List (List Cell)), i + d = c.toNat → 0 ≤ o → o ≤ x.length → acc.length = i →
    ∃ m, goF E (callOf L33) F34 0 m P34_0 (M34_0 x c acc o i) = some ([.one (.sl true 3 (rreadF x d o acc).1), .one (.int .i64 (rreadF x d o acc).2.1), .one (.int .i64 (rreadF x d o acc).2.2)], []) := by
  intro d
  induction d with
  | zero =>
    intro i o acc hi h0 h1 ha
    refine ⟨1, ?_⟩
    rw [e34_0]
    exact cf (decide_eq_false (by omega)) rfl
  | succ d ih =>
    intro i o acc hi h0 h1 ha
    have h4 := okRd_drop hx o.toNat
    have hl := (okRd_of hx).2
    by_cases he : (rnum2 (x.drop o.toNat)).2.2 = 0
    · have hb := rnum2_bound (okRd_of h4).1 he
      rw [List.length_drop] at hb
      obtain ⟨m, hm⟩ := ih (i + 1) (o + (rnum2 (x.drop o.toNat)).2.1) (acc ++ [[.int .i64 (rnum2 (x.drop o.toNat)).1]]) (by omega) (by omega) (by omega) (by simp; omega)
      refine ⟨m + 1, ?_⟩
      rw [e34_0, dropN_eq]
      refine ct (decide_eq_true (by omega)) (ct (inB_of h0 (by omega)) (ct h4 (cf (by simpa using he) (ct (fits_of (by simp; omega)) ?_))))
      rw [wrap64 (by omega) (by omega), wrap64 (by omega) (by omega), show (i : Int) + 1 = ((i + 1 : Nat) : Int) by omega, hm, rreadF, if_neg (by simpa using he)]
    · refine ⟨1, ?_⟩
      rw [e34_0, dropN_eq]
      refine ct (decide_eq_true (by omega)) (ct (inB_of h0 (by omega)) (ct h4 (ct (by simpa using he) ?_)))
      rw [rreadF, if_pos he]

theorem k34 (x : List (List Cell)) (c : Int) (h : (okRd x && decide (c ≤ 1000)) = true) : ∃ m, runF E (callOf L33) m 34 [.one (.sl false 5 x), .one (.int .i64 c)] [] = some ([.one (.sl true 3 (rread x c).1), .one (.int .i64 (rread x c).2.1), .one (.int .i64 (rread x c).2.2)], []) := by
  simp only [Bool.and_eq_true, decide_eq_true_eq] at h
  obtain ⟨m, hm⟩ := l34 x h.1 c h.2 c.toNat 0 0 [] (by omega) (by omega) (by omega) rfl
  exact ⟨m + 1, by rw [e34]; exact hm⟩

def chain (x : List (List Cell)) : Nat → Int → Int → List Int × Int × Int
  | 0, o, e => ([], o, e)
  | k + 1, o, e => ((rnum x o e).1 :: (chain x k (rnum x o e).2.1 (rnum x o e).2.2).1, (chain x k (rnum x o e).2.1 (rnum x o e).2.2).2)

theorem chain_err (x : List (List Cell)) (o e : Int) (he : e ≠ 0) : ∀ k, (chain x k o e).2 = (o, e)
  | 0 => rfl
  | k + 1 => by
    have : rnum x o e = (0, o, e) := by unfold rnum; rw [if_pos he]
    simp only [chain, this]
    exact chain_err x o e he k

theorem chain_rd (x : List (List Cell)) (hx : okRd x = true) (o : Int) (ho : 0 ≤ o) : ∀ (k : Nat) (a : Int) (acc : List (List Cell)), 0 ≤ a → o + a ≤ x.length →
    (rreadF (x.drop o.toNat) k a acc).2.2 = (chain x k (o + a) 0).2.2 ∧
    ((rreadF (x.drop o.toNat) k a acc).2.2 = 0 → (chain x k (o + a) 0).2.1 = o + (rreadF (x.drop o.toNat) k a acc).2.1 ∧ (rreadF (x.drop o.toNat) k a acc).1 = acc ++ (chain x k (o + a) 0).1.map fun n => [Cell.int .i64 n])
  | 0, a, acc, _, _ => by simp [rreadF, chain]
  | k + 1, a, acc, ha, hl => by
    have hd : (x.drop o.toNat).drop a.toNat = x.drop (o + a).toNat := by
      rw [List.drop_drop]
      congr 1
      omega
    simp only [rreadF, chain, hd]
    by_cases he : (rnum2 (x.drop (o + a).toNat)).2.2 = 0
    · have hr : rnum x (o + a) 0 = ((rnum2 (x.drop (o + a).toNat)).1, o + a + (rnum2 (x.drop (o + a).toNat)).2.1, 0) := by
        unfold rnum
        rw [if_neg (by simp), if_neg (by simpa using he)]
      have hb := rnum2_bound (okRd_of (okRd_drop hx (o + a).toNat)).1 he
      rw [List.length_drop] at hb
      rw [if_neg (by simpa using he), hr]
      have := chain_rd x hx o ho k (a + (rnum2 (x.drop (o + a).toNat)).2.1) (acc ++ [[.int .i64 (rnum2 (x.drop (o + a).toNat)).1]]) (by omega) (by omega)
      rw [← Int.add_assoc] at this
      refine ⟨this.1, fun h => ⟨(this.2 h).1, ?_⟩⟩
      rw [(this.2 h).2]
      simp
    · have hr : rnum x (o + a) 0 = (0, o + a, (rnum2 (x.drop (o + a).toNat)).2.2) := by
        unfold rnum
        rw [if_neg (by simp), if_pos he]
      rw [if_pos he, hr]
      simp only
      rw [chain_err x (o + a) _ he k]
      exact ⟨rfl, fun h => absurd h he⟩

theorem chain_read {x : List (List Cell)} (hx : okRd x = true) {o : Int} (ho : 0 ≤ o) (hl : o ≤ x.length) (c : Int) :
    (rread (x.drop o.toNat) c).2.2 = (chain x c.toNat o 0).2.2 ∧
    ((rread (x.drop o.toNat) c).2.2 = 0 → (chain x c.toNat o 0).2.1 = o + (rread (x.drop o.toNat) c).2.1 ∧ (rread (x.drop o.toNat) c).1 = (chain x c.toNat o 0).1.map fun n => [Cell.int .i64 n]) := by
  have := chain_rd x hx o ho c.toNat 0 [] (by omega) (by omega)
  rw [Int.add_zero] at this
  exact this

theorem rreadF_bound (x : List (List Cell)) (hx : okRd x = true) : ∀ (k : Nat) (a : Int) (acc : List (List Cell)), 0 ≤ a → a ≤ x.length → (rreadF x k a acc).2.2 = 0 →
    a ≤ (rreadF x k a acc).2.1 ∧ (rreadF x k a acc).2.1 ≤ x.length ∧ (rreadF x k a acc).1.length = acc.length + k ∧ (1 ≤ k → a < (rreadF x k a acc).2.1)
  | 0, a, acc, ha, hl, _ => ⟨Int.le_refl _, hl, rfl, fun h => by omega⟩
  | k + 1, a, acc, ha, hl, h => by
    simp only [rreadF] at h ⊢
    by_cases he : (rnum2 (x.drop a.toNat)).2.2 = 0
    · have hb := rnum2_bound (okRd_of (okRd_drop hx a.toNat)).1 he
      rw [List.length_drop] at hb
      rw [if_neg (by simpa using he)] at h ⊢
      have := rreadF_bound x hx k _ (acc ++ [[.int .i64 (rnum2 (x.drop a.toNat)).1]]) (by omega) (by omega) h
      simp only [List.length_append, List.length_cons, List.length_nil] at this
      exact ⟨by omega, this.2.1, by omega, fun _ => by omega⟩
    · rw [if_pos he] at h
      exact absurd h he

theorem rread_bound {x : List (List Cell)} (hx : okRd x = true) {c : Int} (h : (rread x c).2.2 = 0) : 0 ≤ (rread x c).2.1 ∧ (rread x c).2.1 ≤ x.length ∧ (rread x c).1.length = c.toNat ∧ (1 ≤ c.toNat → 0 < (rread x c).2.1) := by
  have := rreadF_bound x hx c.toNat 0 [] (by omega) (by omega) h
  rw [List.length_nil, Nat.zero_add] at this
  exact this

theorem decCs_bound (x : List (List Cell)) (hx : okRd x = true) : ∀ (k : Nat) (a : Int) (acc : List (List Cell)), 0 ≤ a → a ≤ x.length → (decCs x k a acc).2.2 = 0 →
    a ≤ (decCs x k a acc).2.1 ∧ (decCs x k a acc).2.1 ≤ x.length ∧ (decCs x k a acc).1.length = acc.length + k
  | 0, a, acc, ha, hl, _ => ⟨Int.le_refl _, hl, rfl⟩
  | k + 1, a, acc, ha, hl, h => by
    simp only [decCs] at h ⊢
    by_cases he : (rread (x.drop a.toNat) 7).2.2 = 0
    · have hb := rread_bound (okRd_drop hx a.toNat) he
      rw [List.length_drop] at hb
      rw [if_neg (by simpa using he)] at h ⊢
      have := decCs_bound x hx k _ (acc ++ [mkCh (rread (x.drop a.toNat) 7).1]) (by omega) (by omega) h
      simp only [List.length_append, List.length_cons, List.length_nil] at this
      exact ⟨by omega, this.2.1, by omega⟩
    · rw [if_pos he] at h
      exact absurd h he

def dp (r : Int × Int × List (List Cell) × Int × Int) : List AV × List Block :=
  ([.agg [.int .i64 r.1, .int .i64 r.2.1, .sl true 89 r.2.2.1], .one (.int .i64 r.2.2.2.1), .one (.int .i64 r.2.2.2.2)], [])

def fin5 (a n : Int) (r : List (List Cell) × Int × Int) : Int × Int × List (List Cell) × Int × Int :=
  if r.2.2 ≠ 0 then (0, 0, [], 0, r.2.2) else if vProp a n r.1 ≠ 0 then (0, 0, [], 0, vProp a n r.1) else (a, n, r.1, r.2.1, 0)

theorem end116 (m : Nat) (t7 t8 : Int) (x : List (List Cell)) (o e a n : Int) (l : List (List Cell)) (he : e ≠ 0) :
    goF E (callOf L134) F116 0 (m + 1) P116_0 (M116_0 t7 t8 0 0 [] x o e a n l) = some (dp (0, 0, [], 0, e)) := by
  rw [e116_0]
  have h1 : (e == 0) = false := by simpa using he
  have h2 : (e != 0) = true := by simpa using he
  rw [h1, h2]
  cases (decide (t8 < t7)) <;> rfl

theorem fin116 (m : Nat) (t7 t8 : Int) (x : List (List Cell)) (o a n : Int) (l : List (List Cell)) (h : ¬ t8 < t7) (hl : l.length < 9223372036854775808) :
    goF E (callOf L134) F116 0 (m + 1) P116_0 (M116_0 t7 t8 0 0 [] x o 0 a n l) = some (dp (fin5 a n (l, o, 0))) := by
  rw [e116_0]
  refine cf (decide_eq_false h) (ct rfl (ct (decide_eq_true hl) ?_))
  unfold fin5
  rw [if_neg (by simp)]
  by_cases hv : vProp a n l = 0
  · rw [if_neg (by simpa using hv)]
    exact cf (by simpa using hv) rfl
  · rw [if_pos hv]
    exact ct (by simpa using hv) rfl

theorem l116 (x : List (List Cell)) (hx : okRd x = true) (k a n : Int) (hk : k ≤ 6) : ∀ (d i : Nat) (o : Int) (acc : List (List Cell)), i + d = k.toNat → 0 ≤ o → o ≤ x.length → acc.length = i →
    ∃ m, goF E (callOf L134) F116 0 m P116_0 (M116_0 k i 0 0 [] x o 0 a n acc) = some (dp (fin5 a n (decCs x d o acc))) := by
  intro d
  induction d with
  | zero =>
    intro i o acc hi h0 h1 ha
    exact ⟨1, by rw [fin116 0 _ _ _ _ _ _ _ (by omega) (by omega)]; rfl⟩
  | succ d ih =>
    intro i o acc hi h0 h1 ha
    have hc := chain_read hx h0 h1 7
    have a1 := okAt_mk hx h0 h1
    have a2 := rnum_at (e := 0) a1
    have a3 := rnum_at (e := (rnum x o 0).2.2) a2
    simp only [show (7 : Int).toNat = 7 from rfl, chain] at hc
    rw [show ((x.drop o.toNat) : List (List Cell)) = x.drop o.toNat from rfl] at hc
    have a4 := rnum_at (e := (rnum x (rnum x o 0).2.1 (rnum x o 0).2.2).2.2) a3
    generalize hp1 : rnum x o 0 = p1 at *
    generalize hp2 : rnum x p1.2.1 p1.2.2 = p2 at *
    generalize hp3 : rnum x p2.2.1 p2.2.2 = p3 at *
    have a5 := rnum_at (e := p3.2.2) a4
    generalize hp4 : rnum x p3.2.1 p3.2.2 = p4 at *
    have a6 := rnum_at (e := p4.2.2) a5
    generalize hp5 : rnum x p4.2.1 p4.2.2 = p5 at *
    have a7 := rnum_at (e := p5.2.2) a6
    generalize hp6 : rnum x p5.2.1 p5.2.2 = p6 at *
    generalize hp7 : rnum x p6.2.1 p6.2.2 = p7 at *
    obtain ⟨c1, c2⟩ := hc
    by_cases he : (rread (x.drop o.toNat) 7).2.2 = 0
    · obtain ⟨c3, c4⟩ := c2 he
      have hb := rread_bound (okRd_drop hx o.toNat) he
      rw [List.length_drop] at hb
      obtain ⟨m, hm⟩ := ih (i + 1) (o + (rread (x.drop o.toNat) 7).2.1) (acc ++ [mkCh (rread (x.drop o.toNat) 7).1]) (by omega) (by omega) (by omega) (by simp; omega)
      refine ⟨m + 1, ?_⟩
      rw [e116_0]
      dsimp only
      rw [hp1, hp2, hp3, hp4, hp5, hp6, hp7]
      refine ct (decide_eq_true (by omega)) (ct rfl (ct a1 (ct a2 (ct a3 (ct a4 (ct a5 (ct a6 (ct a7 (ct (fits_of (by simp; omega)) ?_)))))))))
      rw [nat_wrap (n := 6) (by omega) (by omega), c3, ← c1, he]
      simp only [decCs, if_neg (show ¬ (rread (x.drop o.toNat) 7).2.2 ≠ 0 by simpa using he)]
      refine Eq.trans ?_ hm
      rw [c4]
      rfl
    · refine ⟨2, ?_⟩
      rw [e116_0]
      dsimp only
      rw [hp1, hp2, hp3, hp4, hp5, hp6, hp7]
      refine ct (decide_eq_true (by omega)) (ct rfl (ct a1 (ct a2 (ct a3 (ct a4 (ct a5 (ct a6 (ct a7 (ct (fits_of (by simp; omega)) ?_)))))))))
      rw [end116 0 _ _ _ _ _ _ _ _ (by rw [← c1]; exact he), ← c1]
      simp only [decCs, if_pos he, fin5]

theorem decP_eq (x : List (List Cell)) : decP x = if (rread x 3).2.2 ≠ 0 then (0, 0, [], 0, (rread x 3).2.2) else if 6 < nr (Abs.rowAt (rread x 3).1 2) 0 then (0, 0, [], 0, 3)
    else fin5 (nr (Abs.rowAt (rread x 3).1 0) 0) (nr (Abs.rowAt (rread x 3).1 1) 0) (decCs x (nr (Abs.rowAt (rread x 3).1 2) 0).toNat (rread x 3).2.1 []) := rfl

theorem k116 (x : List (List Cell)) (hx : okRd x = true) : ∃ m, runF E (callOf L134) m 116 [.one (.sl false 5 x)] [] = some (dp (decP x)) := by
  have hc := chain_read hx (o := 0) (by omega) (by omega) 3
  have a1 := okAt_mk hx (o := 0) (by omega) (by omega)
  have a2 := rnum_at (e := 0) a1
  have a3 := rnum_at (e := (rnum x 0 0).2.2) a2
  simp only [show (3 : Int).toNat = 3 from rfl, show (0 : Int).toNat = 0 from rfl, List.drop_zero, chain] at hc
  generalize hp1 : rnum x 0 0 = p1 at *
  generalize hp2 : rnum x p1.2.1 p1.2.2 = p2 at *
  generalize hp3 : rnum x p2.2.1 p2.2.2 = p3 at *
  obtain ⟨c1, c2⟩ := hc
  rw [decP_eq]
  by_cases he : (rread x 3).2.2 = 0
  · obtain ⟨c3, c4⟩ := c2 he
    have hb := rread_bound hx he
    have e0 : nr (Abs.rowAt (rread x 3).1 0) 0 = p1.1 := by rw [c4]; rfl
    have e1 : nr (Abs.rowAt (rread x 3).1 1) 0 = p2.1 := by rw [c4]; rfl
    have e2 : nr (Abs.rowAt (rread x 3).1 2) 0 = p3.1 := by rw [c4]; rfl
    rw [if_neg (by simpa using he), e0, e1, e2]
    have hz : p3.2.2 = 0 := by rw [← c1]; exact he
    by_cases h6 : 6 < p3.1
    · refine ⟨2, ?_⟩
      rw [e116, hp1, hp2, hp3, if_pos h6]
      refine ct a1 (ct a2 (ct a3 (ct (by simpa using hz) (ct (decide_eq_true h6) ?_))))
      exact end116 0 _ _ _ _ _ _ _ _ (by decide)
    · obtain ⟨m, hm⟩ := l116 x hx p3.1 p1.1 p2.1 (by omega) p3.1.toNat 0 (rread x 3).2.1 [] (by omega) hb.1 hb.2.1 rfl
      refine ⟨m + 1, ?_⟩
      rw [e116, hp1, hp2, hp3, if_neg h6]
      refine ct a1 (ct a2 (ct a3 (ct (by simpa using hz) (cf (decide_eq_false h6) ?_))))
      rw [c3, hz, Int.zero_add]
      exact hm
  · refine ⟨2, ?_⟩
    rw [e116, hp1, hp2, hp3, if_pos he, c1]
    have hz : p3.2.2 ≠ 0 := by rw [← c1]; exact he
    refine ct a1 (ct a2 (ct a3 (cf (by simpa using hz) ?_)))
    exact end116 0 _ _ _ _ _ _ _ _ hz

theorem l119 (x : List (List Cell)) (hx : okRd x = true) (t : List (List Cell)) (k a n : Int) (ht : t.length = 3) (htk : nr (Abs.rowAt t 2) 0 = k) (hk : k ≤ 6) : ∀ (d i : Nat) (o : Int) (acc : List (List Cell)), i + d = k.toNat → 0 ≤ o → o ≤ x.length → acc.length = i →
    ∃ m, goF E (callOf L34) F119 0 m P119_0 (M119_0 x t o i 0 0 [] a n acc) = some (dp (fin5 a n (decCs x d o acc))) := by
  intro d
  induction d with
  | zero =>
    intro i o acc hi h0 h1 ha
    refine ⟨1, ?_⟩
    rw [e119_0, htk]
    refine ct (inB_of (by omega) (by omega)) (cf (decide_eq_false (by omega)) (ct (decide_eq_true (by omega)) ?_))
    unfold fin5 decCs
    rw [if_neg (by simp)]
    by_cases hv : vProp a n acc = 0
    · rw [if_neg (by simpa using hv)]
      exact cf (by simpa using hv) rfl
    · rw [if_pos hv]
      exact ct (by simpa using hv) rfl
  | succ d ih =>
    intro i o acc hi h0 h1 ha
    have h4 := okRd_drop hx o.toNat
    by_cases he : (rread (x.drop o.toNat) 7).2.2 = 0
    · have hb := rread_bound h4 he
      rw [List.length_drop] at hb
      have h7 : (rread (x.drop o.toNat) 7).1.length = 7 := hb.2.2.1
      obtain ⟨m, hm⟩ := ih (i + 1) (o + (rread (x.drop o.toNat) 7).2.1) (acc ++ [mkCh (rread (x.drop o.toNat) 7).1]) (by omega) (by omega) (by omega) (by simp; omega)
      refine ⟨m + 1, ?_⟩
      have hl := (okRd_of hx).2
      rw [e119_0, htk, dropN_eq]
      refine ct (inB_of (by omega) (by omega)) (ct (decide_eq_true (by omega)) (ct (inB_of h0 (by omega)) (ct (by simp [h4]) (cf (by simpa using he) ?_))))
      refine ct (inB_of (by omega) (by omega)) (ct (inB_of (by omega) (by omega)) (ct (inB_of (by omega) (by omega)) (ct (inB_of (by omega) (by omega)) (ct (inB_of (by omega) (by omega)) (ct (inB_of (by omega) (by omega)) (ct (inB_of (by omega) (by omega)) (ct (fits_of (by simp; omega)) ?_)))))))
      rw [nat_wrap (n := 6) (by omega) (by omega), wrap64 (by omega) (by omega)]
      simp only [decCs, if_neg (show ¬ (rread (x.drop o.toNat) 7).2.2 ≠ 0 by simpa using he)]
      exact hm
    · refine ⟨1, ?_⟩
      rw [e119_0, htk, dropN_eq]
      refine ct (inB_of (by omega) (by omega)) (ct (decide_eq_true (by omega)) (ct (inB_of h0 (by omega)) (ct (by simp [h4]) (ct (by simpa using he) ?_))))
      simp only [decCs, if_pos he, fin5]
      rfl

theorem k119 (x : List (List Cell)) (hx : okRd x = true) : ∃ m, runF E (callOf L34) m 119 [.one (.sl false 5 x)] [] = some (dp (decP x)) := by
  rw [decP_eq]
  by_cases he : (rread x 3).2.2 = 0
  · have hb := rread_bound hx he
    have h3 : (rread x 3).1.length = 3 := hb.2.2.1
    rw [if_neg (by simpa using he)]
    by_cases h6 : 6 < nr (Abs.rowAt (rread x 3).1 2) 0
    · refine ⟨1, ?_⟩
      rw [e119, if_pos h6]
      exact ct (by simp [hx]) (cf (by simpa using he) (ct (inB_of (by omega) (by omega)) (ct (decide_eq_true h6) rfl)))
    · obtain ⟨m, hm⟩ := l119 x hx (rread x 3).1 _ (nr (Abs.rowAt (rread x 3).1 0) 0) (nr (Abs.rowAt (rread x 3).1 1) 0) h3 rfl (by omega) _ 0 (rread x 3).2.1 [] (Nat.zero_add _) hb.1 hb.2.1 rfl
      refine ⟨m + 1, ?_⟩
      rw [e119, if_neg h6]
      exact ct (by simp [hx]) (cf (by simpa using he) (ct (inB_of (by omega) (by omega)) (cf (decide_eq_false h6) (ct (inB_of (by omega) (by omega)) (ct (inB_of (by omega) (by omega)) hm)))))
  · refine ⟨1, ?_⟩
    rw [e119, if_pos he]
    exact ct (by simp [hx]) (ct (by simpa using he) rfl)

theorem vProp_ok {a n : Int} {c : List (List Cell)} (h : vProp a n c = 0) : 201 ≤ a ∧ a < 204 ∧ 1 ≤ n ∧ n ≤ 3 ∧ 1 ≤ c.length ∧ c.length ≤ 6 ∧ vChs [] c = 0 := by
  unfold vProp at h
  split at h
  · simp at h
  · split at h
    · simp at h
    · split at h
      · simp at h
      · omega

theorem decP_len (x : List (List Cell)) (hx : okRd x = true) : (decP x).2.2.1.length ≤ 6 := by
  rw [decP_eq]
  split
  · simp
  · rename_i h0
    split
    · simp
    · rename_i h6
      unfold fin5
      split
      · simp
      · rename_i h1
        split
        · simp
        · have hb := rread_bound hx (c := 3) (by simpa using h0)
          have := (decCs_bound x hx _ _ [] hb.1 hb.2.1 (by simpa using h1)).2.2
          simp only [this, List.length_nil]
          omega

end Go.Proofs.YtejimgikldiajaaGreat

namespace Go.Proofs.YtejimgikldiajaaGreat

open Go.Abs

def Gap (c : Rs) : Prop := ∀ r ∈ c, 1 < nr r 1 → ∃ q ∈ c, nr q 0 = nr r 0 ∧ nr q 1 = nr r 1 - 1

def Nums (c : Rs) : Prop := ∀ r ∈ c, 1 ≤ nr r 0 ∧ 1 ≤ nr r 1 ∧ nr r 1 ≤ 1000000

structure Vld (c : Rs) : Prop where
  asc : Asc c
  gap : Gap c
  nums : Nums c

def sub (c : Rs) (f : Int → Int) : Rs := c.filter fun r => decide (nr r 1 ≤ f (nr r 0))

theorem sub_len (c : Rs) (f : Int → Int) : (sub c f).length ≤ c.length := List.length_filter_le _ _

def EntOk (v : Rs) : Prop := ∀ e ∈ v, isEn e = true ∧ 1 ≤ nr e 0 ∧ 1 ≤ nr e 1 ∧ nr e 1 ≤ 1000000

structure IsVec (v c : Rs) : Prop where
  asc : AscV v
  ents : EntOk v
  has : ∀ r : List Cell, hasK c r = true ↔ 1 ≤ nr r 1 ∧ nr r 1 ≤ cntV v (nr r 0)

structure VInv (pre v : Rs) : Prop where
  asc : AscV v
  ents : EntOk v
  lo : ∀ r ∈ pre, nr r 1 ≤ cntV v (nr r 0)
  hi : ∀ a, cntV v a ≠ 0 → ∃ r ∈ pre, nr r 0 = a ∧ nr r 1 = cntV v a
  most : ∀ e ∈ v, ∃ r ∈ pre, nr r 0 = nr e 0

theorem eqVF_refl : ∀ v : Rs, eqVF v v = true
  | [] => rfl
  | e :: v => by
    rw [eqVF]
    have : eqVF v ((e :: v).drop 1) = true := eqVF_refl v
    rw [this]
    simp [Abs.rowAt]

theorem eqVec_refl (v : Rs) : eqVec v v = true := by simp [eqVec, eqVF_refl]

end Go.Proofs.YtejimgikldiajaaGreat

namespace Go.Proofs.YtejimgikldiajaaGreat

open Go.Abs

theorem okRows_of {c : List (List Cell)} (h : okRows c = true) : c.length ≤ 1000 ∧ shortRows c = true := by
  unfold okRows at h
  simp only [Bool.and_eq_true, decide_eq_true_eq] at h
  exact h

theorem okRows_mk {c : List (List Cell)} (h1 : c.length ≤ 1000) (h2 : shortRows c = true) : okRows c = true := by
  unfold okRows
  simp only [Bool.and_eq_true, decide_eq_true_eq]
  exact ⟨h1, h2⟩

theorem all_at {p : List Cell → Bool} {l : List (List Cell)} (h : l.all p = true) {i : Nat} (hi : i < l.length) : p (Abs.rowAt l i) = true := by
  rw [rowAt_eq hi]
  exact List.all_eq_true.1 h _ (List.getElem_mem hi)

theorem short_at {c : List (List Cell)} (h : shortRows c = true) {i : Nat} (hi : i < c.length) : (nl (Abs.rowAt c i) 2).length < 9223372036854775808 := by
  have := all_at h hi
  unfold shortRow at this
  simpa using this

theorem vCfgF_first (q q' : List Cell) (l : List (List Cell)) : vCfgF true q l = vCfgF true q' l := by
  cases l <;> simp [vCfgF]

theorem vCfg_step (first : Bool) (q r : List Cell) (rs : List (List Cell)) : vCfgF first q (r :: rs) =
    if vPropR r ≠ 0 then vPropR r
    else if first = false ∧ cmpP (nr r 0) (nr r 1) (nr q 0) (nr q 1) ≤ 0 then 7
    else if 1 < nr r 1 ∧ (first = true ∨ nr q 0 ≠ nr r 0 ∨ nr q 1 ≠ nr r 1 - 1) then 8
    else vCfgF false r rs := rfl

theorem l61 (c : List (List Cell)) (hc : c.length ≤ 1000) (hs : shortRows c = true) : ∀ (d i : Nat), i + d = c.length →
    ∃ m, goF E (callOf L119) F61 0 m P61_0 (M61_0 c c c.length i) = some ([.one (.int .i64 (vCfgF (decide (i = 0)) (Abs.rowAt c (i - 1)) (c.drop i)))], [])
  | 0, i, hi => by
    refine ⟨1, ?_⟩
    rw [e61_0]
    have : c.drop i = [] := List.drop_eq_nil_of_le (by omega)
    rw [this, vCfgF]
    exact cf (decide_eq_false (by omega)) rfl
  | d + 1, i, hi => by
    have hi' : i < c.length := by omega
    obtain ⟨m, hm⟩ := l61 c hc hs d (i + 1) (by omega)
    rw [decide_eq_false (by omega : ¬ i + 1 = 0), Nat.add_sub_cancel] at hm
    have hsh := short_at hs hi'
    refine ⟨m + 1, ?_⟩
    rw [e61_0, drop_cons c i hi', vCfg_step, Int.toNat_natCast, nat_wrap (n := c.length) hi' (by omega), hm]
    refine ct (decide_eq_true (by omega)) (ct (inB_nat' hi') (ct (decide_eq_true hsh) ?_))
    generalize hr : Abs.rowAt c i = r
    show cond (vPropR r != 0) (some ([AV.one (AC.int .i64 (vPropR r))], ([] : List Block))) _ = _
    by_cases hv : vPropR r = 0
    · rw [if_neg (by simpa using hv)]
      refine cf (by simpa using hv) ?_
      have hn := vProp_ok hv
      by_cases h0 : i = 0
      · subst h0
        refine cf (decide_eq_false (by simp)) ?_
        rw [decide_eq_true rfl, if_neg (by simp)]
        by_cases h1 : 1 < nr r 1
        · rw [if_pos ⟨h1, Or.inl rfl⟩]
          exact ct (decide_eq_true h1) (ct (by simp) rfl)
        · rw [if_neg (fun h => h1 h.1)]
          exact cf (decide_eq_false h1) rfl
      · rw [wrap64 (n := (i : Int) - 1) (by omega) (by omega), show ((i : Int) - 1).toNat = i - 1 by omega, wrap64 (n := nr r 1 - 1) (by omega) (by omega)]
        rw [decide_eq_false h0]
        generalize Abs.rowAt c (i - 1) = q
        refine ct (decide_eq_true (by omega)) (ct (inB_of (by omega) (by omega)) ?_)
        by_cases h2 : cmpP (nr r 0) (nr r 1) (nr q 0) (nr q 1) ≤ 0
        · rw [if_pos ⟨rfl, h2⟩]
          exact ct (decide_eq_true h2) rfl
        · rw [if_neg (fun h => h2 h.2)]
          refine cf (decide_eq_false h2) ?_
          by_cases h1 : 1 < nr r 1
          · refine ct (decide_eq_true h1) (cf (beq_eq_false_iff_ne.2 (by omega)) (ct (inB_of (by omega) (by omega)) ?_))
            by_cases h3 : nr q 0 = nr r 0
            · refine cf (bne_eq_false_iff_eq.2 h3) (ct (inB_of (by omega) (by omega)) ?_)
              by_cases h4 : nr q 1 = nr r 1 - 1
              · rw [if_neg (by simp [h3, h4])]
                exact cf (bne_eq_false_iff_eq.2 h4) rfl
              · rw [if_pos ⟨h1, Or.inr (Or.inr h4)⟩]
                exact ct (bne_iff_ne.2 h4) rfl
            · rw [if_pos ⟨h1, Or.inr (Or.inl h3)⟩]
              exact ct (bne_iff_ne.2 h3) rfl
          · rw [if_neg (fun h => h1 h.1)]
            exact cf (decide_eq_false h1) rfl
    · rw [if_pos hv]
      exact ct (by simpa using hv) rfl

theorem k61 (c : List (List Cell)) (h : okRows c = true) : ∃ m, runF E (callOf L119) m 61 [.one (.sl false 93 c)] [] = some ([.one (.int .i64 (vCfg c))], []) := by
  obtain ⟨h1, h2⟩ := okRows_of h
  obtain ⟨m, hm⟩ := l61 c h1 h2 c.length 0 (by omega)
  refine ⟨m + 1, ?_⟩
  rw [e61]
  refine Eq.trans hm ?_
  rw [decide_eq_true rfl, List.drop_zero, vCfgF_first _ []]
  rfl

theorem cmpP_swap (a n b m : Int) : (cmpP b m a n ≥ 0) ↔ (cmpP a n b m ≤ 0) := by
  have := cmpP_cases a n b m
  have := cmpP_cases b m a n
  omega

theorem l70 (c : List (List Cell)) (hc : c.length ≤ 1000) (hs : shortRows c = true) : ∀ (d i : Nat), i + d = c.length →
    ∃ m, goF E (callOf L61) F70 0 m P70_0 (M70_0 c i) = some ([.one (.int .i64 (vCfgF (decide (i = 0)) (Abs.rowAt c (i - 1)) (c.drop i)))], [])
  | 0, i, hi => by
    refine ⟨1, ?_⟩
    rw [e70_0]
    have : c.drop i = [] := List.drop_eq_nil_of_le (by omega)
    rw [this, vCfgF]
    exact cf (decide_eq_false (by omega)) rfl
  | d + 1, i, hi => by
    have hi' : i < c.length := by omega
    obtain ⟨m, hm⟩ := l70 c hc hs d (i + 1) (by omega)
    rw [decide_eq_false (by omega : ¬ i + 1 = 0), Nat.add_sub_cancel] at hm
    have hsh := short_at hs hi'
    have hib := inB_nat' hi'
    refine ⟨m + 1, ?_⟩
    rw [e70_0, drop_cons c i hi', vCfg_step, Int.toNat_natCast, nat_wrap (n := c.length) hi' (by omega), hm]
    refine ct (decide_eq_true (by omega)) (ct hib (ct (decide_eq_true hsh) ?_))
    generalize hr : Abs.rowAt c i = r
    show cond (vPropR r != 0) (some ([AV.one (AC.int .i64 (vPropR r))], ([] : List Block))) _ = _
    by_cases hv : vPropR r = 0
    · rw [if_neg (by simpa using hv)]
      refine cf (by simpa using hv) ?_
      have hn := vProp_ok hv
      by_cases h0 : i = 0
      · subst h0
        refine cf (decide_eq_false (by simp)) (ct hib ?_)
        rw [decide_eq_true rfl, if_neg (by simp)]
        by_cases h1 : 1 < nr r 1
        · rw [if_pos ⟨h1, Or.inl rfl⟩]
          exact ct (decide_eq_true h1) (ct (by simp) rfl)
        · rw [if_neg (fun h => h1 h.1)]
          exact cf (decide_eq_false h1) rfl
      · rw [wrap64 (n := (i : Int) - 1) (by omega) (by omega), show ((i : Int) - 1).toNat = i - 1 by omega, wrap64 (n := nr r 1 - 1) (by omega) (by omega)]
        rw [decide_eq_false h0]
        generalize Abs.rowAt c (i - 1) = q
        have hsw := cmpP_swap (nr r 0) (nr r 1) (nr q 0) (nr q 1)
        refine ct (decide_eq_true (by omega)) (ct (inB_of (by omega) (by omega)) (ct hib ?_))
        by_cases h2 : cmpP (nr r 0) (nr r 1) (nr q 0) (nr q 1) ≤ 0
        · rw [if_pos ⟨rfl, h2⟩]
          exact ct (decide_eq_true (hsw.2 h2)) rfl
        · rw [if_neg (fun h => h2 h.2)]
          refine cf (decide_eq_false (fun h => h2 (hsw.1 h))) (ct hib ?_)
          by_cases h1 : 1 < nr r 1
          · refine ct (decide_eq_true h1) (cf (beq_eq_false_iff_ne.2 (by omega)) (ct (inB_of (by omega) (by omega)) (ct hib ?_)))
            by_cases h3 : nr q 0 = nr r 0
            · refine cf (bne_eq_false_iff_eq.2 h3) (ct (inB_of (by omega) (by omega)) (ct hib ?_))
              by_cases h4 : nr q 1 = nr r 1 - 1
              · rw [if_neg (by simp [h3, h4])]
                exact cf (bne_eq_false_iff_eq.2 h4) rfl
              · rw [if_pos ⟨h1, Or.inr (Or.inr h4)⟩]
                exact ct (bne_iff_ne.2 h4) rfl
            · rw [if_pos ⟨h1, Or.inr (Or.inl h3)⟩]
              exact ct (bne_iff_ne.2 h3) rfl
          · rw [if_neg (fun h => h1 h.1)]
            exact cf (decide_eq_false h1) rfl
    · rw [if_pos hv]
      exact ct (by simpa using hv) rfl

theorem k70 (c : List (List Cell)) (h : okRows c = true) : ∃ m, runF E (callOf L61) m 70 [.one (.sl false 93 c)] [] = some ([.one (.int .i64 (vCfg c))], []) := by
  obtain ⟨h1, h2⟩ := okRows_of h
  obtain ⟨m, hm⟩ := l70 c h1 h2 c.length 0 (by omega)
  refine ⟨m + 1, ?_⟩
  rw [e70]
  refine Eq.trans hm ?_
  rw [decide_eq_true rfl, List.drop_zero, vCfgF_first _ []]
  rfl

theorem l38 (c d : List (List Cell)) (hc : c.length ≤ 1000) (hs : shortRows c = true) (hd : c.length = d.length) : ∀ (e i : Nat), i + e = c.length →
    ∃ m, goF E (callOf L70) F38 0 m P38_0 (M38_0 c d i) = some ([.one (.bool (eqCfgF (c.drop i) (d.drop i)))], [])
  | 0, i, hi => by
    refine ⟨1, ?_⟩
    rw [e38_0]
    have : c.drop i = [] := List.drop_eq_nil_of_le (by omega)
    rw [this, eqCfgF]
    exact cf (decide_eq_false (by omega)) rfl
  | e + 1, i, hi => by
    have hi' : i < c.length := by omega
    obtain ⟨m, hm⟩ := l38 c d hc hs hd e (i + 1) (by omega)
    refine ⟨m + 1, ?_⟩
    rw [e38_0]
    rw [drop_cons c i hi', eqCfgF, Int.toNat_natCast, nat_wrap (n := c.length) hi' (by omega), hm, rowAt_drop, List.drop_drop, Nat.add_zero]
    refine ct (decide_eq_true (by omega)) (ct (inB_nat' hi') (ct (inB_nat' (by omega)) (ct (decide_eq_true (short_at hs hi')) ?_)))
    show cond (!(eqPR (Abs.rowAt c i) (Abs.rowAt d i))) _ _ = _
    generalize eqPR (Abs.rowAt c i) (Abs.rowAt d i) = b1
    cases b1 <;> rfl

theorem k38 (c d : List (List Cell)) (h : okRows c = true) : ∃ m, runF E (callOf L70) m 38 [.one (.sl false 93 c), .one (.sl false 93 d)] [] = some ([.one (.bool (eqCfg c d))], []) := by
  obtain ⟨h1, h2⟩ := okRows_of h
  unfold eqCfg
  by_cases hd : c.length = d.length
  · obtain ⟨m, hm⟩ := l38 c d h1 h2 hd c.length 0 (by omega)
    refine ⟨m + 1, ?_⟩
    rw [e38, show (0 : Int) = ((0 : Nat) : Int) from rfl, hm, decide_eq_true hd]
    exact cf (bne_eq_false_iff_eq.2 (by omega)) rfl
  · refine ⟨1, ?_⟩
    rw [e38, decide_eq_false hd]
    exact ct (bne_iff_ne.2 (by omega)) rfl

theorem decP_bound {x : List (List Cell)} (hx : okRd x = true) : 0 ≤ (decP x).2.2.2.1 ∧ (decP x).2.2.2.1 ≤ x.length := by
  rw [decP_eq]
  split
  · simp
  · rename_i h0
    have hb := rread_bound hx (c := 3) (by simpa using h0)
    split
    · simp
    · unfold fin5
      split
      · simp
      · rename_i h1
        split
        · simp
        · have := decCs_bound x hx _ _ [] hb.1 hb.2.1 (by simpa using h1)
          simp only
          omega

theorem decPs_bound (x : List (List Cell)) (hx : okRd x = true) : ∀ (k : Nat) (o : Int) (acc : List (List Cell)), 0 ≤ o → o ≤ x.length → (decPs x k o acc).2.2 = 0 →
    (decPs x k o acc).1.length = acc.length + k ∧ (shortRows acc = true → shortRows (decPs x k o acc).1 = true)
  | 0, o, acc, _, _, _ => ⟨rfl, id⟩
  | k + 1, o, acc, h0, h1, h => by
    simp only [decPs] at h ⊢
    have hb := decP_bound (okRd_drop hx o.toNat)
    rw [List.length_drop] at hb
    have hl := decP_len _ (okRd_drop hx o.toNat)
    by_cases he : (decP (x.drop o.toNat)).2.2.2.2 = 0
    · rw [if_neg (by simpa using he)] at h ⊢
      have := decPs_bound x hx k _ (acc ++ [mkPr (decP (x.drop o.toNat))]) (by omega) (by omega) h
      simp only [List.length_append, List.length_cons, List.length_nil] at this
      refine ⟨by omega, fun hs => this.2 ?_⟩
      unfold shortRows at hs ⊢
      rw [List.all_append, hs]
      have e : nl (mkPr (decP (x.drop o.toNat))) 2 = (decP (x.drop o.toNat)).2.2.1 := rfl
      simp only [List.all_cons, List.all_nil, Bool.and_true, Bool.true_and, shortRow, e, decide_eq_true_eq]
      omega
    · rw [if_pos he] at h
      exact absurd h he

def dc (r : List (List Cell) × Int × Int) : List AV × List Block := ([.one (.sl true 93 r.1), .one (.int .i64 r.2.1), .one (.int .i64 r.2.2)], [])

theorem fin_tree {acc : List (List Cell)} {o : Int} (ho : okRows acc = true) :
    (cond (okRows acc) (cond ((vCfg acc) != 0) (some ([AV.one (.sl true 93 ([] : List (List Cell))), .one (.int .i64 0), .one (.int .i64 (vCfg acc))], ([] : List Block)))
      (some ([.one (.sl true 93 acc), .one (.int .i64 o), .one (.int .i64 0)], []))) none) = some (dc (finC (acc, o, 0))) := by
  refine ct ho ?_
  unfold finC
  rw [if_neg (by simp)]
  by_cases hv : vCfg acc = 0
  · rw [if_neg (by simpa using hv)]
    exact cf (by simpa using hv) rfl
  · rw [if_pos hv]
    exact ct (by simpa using hv) rfl

theorem snoc_short {acc : List (List Cell)} {x : List (List Cell)} (hs : shortRows acc = true) (hx : okRd x = true) : shortRows (acc ++ [mkPr (decP x)]) = true := by
  have hl := decP_len x hx
  unfold shortRows at hs ⊢
  rw [List.all_append, hs]
  have e : nl (mkPr (decP x)) 2 = (decP x).2.2.1 := rfl
  simp only [List.all_cons, List.all_nil, Bool.and_true, Bool.true_and, shortRow, e, decide_eq_true_eq]
  omega

theorem l78 (x : List (List Cell)) (hx : okRd x = true) (k : Int) (hk : k ≤ 9) : ∀ (d i : Nat) (o : Int) (acc : List (List Cell)), i + d = k.toNat → 0 ≤ o → o ≤ x.length → acc.length = i → shortRows acc = true →
    ∃ m, goF E (callOf L38) F78 0 m P78_0 (M78_0 x o acc k i) = some (dc (finC (decPs x d o acc))) := by
  intro d
  induction d with
  | zero =>
    intro i o acc hi h0 h1 ha hs
    refine ⟨1, ?_⟩
    rw [e78_0]
    exact cf (decide_eq_false (by omega)) (fin_tree (okRows_mk (by omega) hs))
  | succ d ih =>
    intro i o acc hi h0 h1 ha hs
    have h4 := okRd_drop hx o.toNat
    have hb := decP_bound h4
    rw [List.length_drop] at hb
    have hl := (okRd_of hx).2
    by_cases he : (decP (x.drop o.toNat)).2.2.2.2 = 0
    · obtain ⟨m, hm⟩ := ih (i + 1) (o + (decP (x.drop o.toNat)).2.2.2.1) (acc ++ [mkPr (decP (x.drop o.toNat))]) (by omega) (by omega) (by omega) (by simp; omega) (snoc_short hs h4)
      refine ⟨m + 1, ?_⟩
      rw [e78_0, dropN_eq]
      refine ct (decide_eq_true (by omega)) (ct (inB_of h0 (by omega)) (ct h4 (cf (by simpa using he) (ct (fits_of (by simp; omega)) ?_))))
      rw [wrap64 (by omega) (by omega), wrapu (by omega) (by omega), show (i : Int) + 1 = ((i + 1 : Nat) : Int) by omega]
      simp only [decPs, if_neg (show ¬ (decP (x.drop o.toNat)).2.2.2.2 ≠ 0 by simpa using he)]
      exact hm
    · refine ⟨1, ?_⟩
      rw [e78_0, dropN_eq]
      refine ct (decide_eq_true (by omega)) (ct (inB_of h0 (by omega)) (ct h4 (ct (by simpa using he) ?_)))
      simp only [decPs, if_pos he, finC]
      rfl

theorem k78 (x : List (List Cell)) (hx : okRd x = true) : ∃ m, runF E (callOf L38) m 78 [.one (.sl false 5 x)] [] = some (dc (decC x)) := by
  unfold decC
  by_cases he : (udec x).2.2 = 0
  · rw [if_neg (by simpa using he)]
    have hb := udec_bound (okRd_of hx).1 he
    by_cases h9 : 9 < (udec x).1
    · refine ⟨1, ?_⟩
      rw [e78, if_pos h9]
      exact ct hx (cf (by simpa using he) (ct (decide_eq_true h9) rfl))
    · obtain ⟨m, hm⟩ := l78 x hx (udec x).1 (by omega) (udec x).1.toNat 0 (udec x).2.1 [] (by omega) (by omega) (by omega) rfl rfl
      refine ⟨m + 1, ?_⟩
      rw [e78, if_neg h9]
      exact ct hx (cf (by simpa using he) (cf (decide_eq_false h9) hm))
  · refine ⟨1, ?_⟩
    rw [e78, if_pos he]
    exact ct hx (ct (by simpa using he) rfl)

theorem l86 (x : List (List Cell)) (hx : okRd x = true) (k : Int) (hk : k ≤ 9) (hk0 : 0 ≤ k) : ∀ (d i : Nat) (o : Int) (acc : List (List Cell)), i + d = k.toNat → 0 ≤ o → o ≤ x.length → acc.length = i → shortRows acc = true →
    ∃ m, goF E (callOf L78) F86 0 m P86_0 (M86_0 x k o acc i) = some (dc (finC (decPs x d o acc))) := by
  intro d
  induction d with
  | zero =>
    intro i o acc hi h0 h1 ha hs
    refine ⟨1, ?_⟩
    rw [e86_0, wrap64 (n := k) (by omega) (by omega)]
    exact cf (decide_eq_false (by omega)) (fin_tree (okRows_mk (by omega) hs))
  | succ d ih =>
    intro i o acc hi h0 h1 ha hs
    have h4 := okRd_drop hx o.toNat
    have hb := decP_bound h4
    rw [List.length_drop] at hb
    have hl := (okRd_of hx).2
    by_cases he : (decP (x.drop o.toNat)).2.2.2.2 = 0
    · obtain ⟨m, hm⟩ := ih (i + 1) (o + (decP (x.drop o.toNat)).2.2.2.1) (acc ++ [mkPr (decP (x.drop o.toNat))]) (by omega) (by omega) (by omega) (by simp; omega) (snoc_short hs h4)
      refine ⟨m + 1, ?_⟩
      rw [e86_0, dropN_eq, wrap64 (n := k) (by omega) (by omega)]
      refine ct (decide_eq_true (by omega)) (ct (inB_of h0 (by omega)) (ct h4 (cf (by simpa using he) (ct (fits_of (by simp; omega)) ?_))))
      rw [wrap64 (by omega) (by omega), nat_wrap (n := 9) (by omega) (by omega)]
      simp only [decPs, if_neg (show ¬ (decP (x.drop o.toNat)).2.2.2.2 ≠ 0 by simpa using he)]
      exact hm
    · refine ⟨1, ?_⟩
      rw [e86_0, dropN_eq, wrap64 (n := k) (by omega) (by omega)]
      refine ct (decide_eq_true (by omega)) (ct (inB_of h0 (by omega)) (ct h4 (ct (by simpa using he) ?_)))
      simp only [decPs, if_pos he, finC]
      rfl

theorem k86 (x : List (List Cell)) (hx : okRd x = true) : ∃ m, runF E (callOf L78) m 86 [.one (.sl false 5 x)] [] = some (dc (decC x)) := by
  unfold decC
  by_cases he : (udec x).2.2 = 0
  · rw [if_neg (by simpa using he)]
    have hb := udec_bound (okRd_of hx).1 he
    by_cases h9 : 9 < (udec x).1
    · refine ⟨1, ?_⟩
      rw [e86, if_pos h9]
      exact ct hx (cf (by simpa using he) (ct (decide_eq_true h9) rfl))
    · obtain ⟨m, hm⟩ := l86 x hx (udec x).1 (by omega) (by omega) (udec x).1.toNat 0 (udec x).2.1 [] (by omega) (by omega) (by omega) rfl rfl
      refine ⟨m + 1, ?_⟩
      rw [e86, if_neg h9]
      exact ct hx (cf (by simpa using he) (cf (decide_eq_false h9) hm))
  · refine ⟨1, ?_⟩
    rw [e86, if_pos he]
    exact ct hx (ct (by simpa using he) rfl)

theorem eqCfgF_refl : ∀ c : List (List Cell), eqCfgF c c = true
  | [] => rfl
  | r :: c => by
    rw [eqCfgF]
    show (eqPR r r && eqCfgF c c) = true
    rw [eqCfgF_refl c]
    simp [eqPR, eqP_refl]

theorem eqCfg_refl (c : List (List Cell)) : eqCfg c c = true := by
  simp [eqCfg, eqCfgF_refl]

theorem decC_rows {x : List (List Cell)} (hx : okRd x = true) : okRows (decC x).1 = true := by
  unfold decC
  split
  · rfl
  · rename_i he
    have hb := udec_bound (okRd_of hx).1 (by simpa using he)
    split
    · rfl
    · unfold finC
      split
      · rfl
      · rename_i h1
        split
        · rfl
        · have := decPs_bound x hx (udec x).1.toNat (udec x).2.1 [] (by omega) (by omega) (by simpa using h1)
          exact okRows_mk (by rw [this.1, List.length_nil]; omega) (this.2 rfl)

theorem okLn_of {c : List (List Cell)} (h : okLn c = true) : c.length ≤ 1000 := by simpa [okLn] using h

theorem okLn_mk {c : List (List Cell)} (h : c.length ≤ 1000) : okLn c = true := by simpa [okLn] using h

theorem l40 (v w : List (List Cell)) (hv : v.length ≤ 1000) (hl : v.length = w.length) : ∀ (d i : Nat), i + d = v.length →
    ∃ m, goF E (callOf L86) F40 0 m P40_0 (M40_0 v w i) = some ([.one (.bool (eqVF (v.drop i) (w.drop i)))], [])
  | 0, i, hi => by
    refine ⟨1, ?_⟩
    have : v.drop i = [] := List.drop_eq_nil_of_le (by omega)
    rw [e40_0, this]
    exact cf (decide_eq_false (by omega)) rfl
  | d + 1, i, hi => by
    have hi' : i < v.length := by omega
    obtain ⟨m, hm⟩ := l40 v w hv hl d (i + 1) (by omega)
    refine ⟨m + 1, ?_⟩
    rw [e40_0, Int.toNat_natCast, drop_cons v i hi', eqVF, nat_wrap (n := v.length) hi' (by omega), hm, rowAt_drop, List.drop_drop, Nat.add_zero]
    refine ct (decide_eq_true (by omega)) (ct (inB_nat' hi') (ct (inB_nat' (by omega)) ?_))
    have e1 : ((nr (Abs.rowAt v i) 0) == (nr (Abs.rowAt w i) 0)) = decide (nr (Abs.rowAt v i) 0 = nr (Abs.rowAt w i) 0) := by rw [Bool.eq_iff_iff, beq_iff_eq, decide_eq_true_eq]
    have e2 : ((nr (Abs.rowAt v i) 1) == (nr (Abs.rowAt w i) 1)) = decide (nr (Abs.rowAt v i) 1 = nr (Abs.rowAt w i) 1) := by rw [Bool.eq_iff_iff, beq_iff_eq, decide_eq_true_eq]
    rw [e1, e2, Bool.and_true]
    cases (decide (nr (Abs.rowAt v i) 0 = nr (Abs.rowAt w i) 0) && decide (nr (Abs.rowAt v i) 1 = nr (Abs.rowAt w i) 1)) <;> rfl

theorem k40 (v w : List (List Cell)) (h : okLn v = true) : ∃ m, runF E (callOf L86) m 40 [.one (.sl false 103 v), .one (.sl false 103 w)] [] = some ([.one (.bool (eqVec v w))], []) := by
  unfold eqVec
  by_cases hl : v.length = w.length
  · obtain ⟨m, hm⟩ := l40 v w (okLn_of h) hl v.length 0 (by omega)
    refine ⟨m + 1, ?_⟩
    rw [e40, decide_eq_true hl]
    exact cf (bne_eq_false_iff_eq.2 (by omega)) hm
  · refine ⟨1, ?_⟩
    rw [e40, decide_eq_false hl]
    exact ct (bne_iff_ne.2 (by omega)) rfl

theorem l27 (v : List (List Cell)) (hv : v.length ≤ 1000) : ∀ (d i : Nat), i + d = v.length →
    ∃ m, goF E (callOf L40) F27 0 m P27_0 (M27_0 v i) = some ([.one (.int .i64 (vVecF (decide (i = 0)) (Abs.rowAt v (i - 1)) (v.drop i)))], [])
  | 0, i, hi => by
    refine ⟨1, ?_⟩
    have : v.drop i = [] := List.drop_eq_nil_of_le (by omega)
    rw [e27_0, this]
    exact cf (decide_eq_false (by omega)) rfl
  | d + 1, i, hi => by
    have hi' : i < v.length := by omega
    have hib := inB_nat' hi'
    obtain ⟨m, hm⟩ := l27 v hv d (i + 1) (by omega)
    rw [decide_eq_false (by omega : ¬ i + 1 = 0), Nat.add_sub_cancel] at hm
    refine ⟨m + 1, ?_⟩
    rw [e27_0, Int.toNat_natCast, drop_cons v i hi', vVecF, nat_wrap (n := v.length) hi' (by omega), hm]
    generalize Abs.rowAt v i = r
    refine ct (decide_eq_true (by omega)) (ct hib ?_)
    by_cases g1 : nr r 0 < 1
    · rw [if_pos (.inl g1)]
      exact ct (decide_eq_true g1) rfl
    · refine cf (decide_eq_false g1) (ct hib ?_)
      by_cases g2 : nr r 1 < 1
      · rw [if_pos (.inr (.inl g2))]
        exact ct (decide_eq_true g2) rfl
      · refine cf (decide_eq_false g2) (ct hib ?_)
        by_cases g3 : 1000000 < nr r 1
        · rw [if_pos (.inr (.inr g3))]
          exact ct (decide_eq_true g3) rfl
        · rw [if_neg (fun h => by omega)]
          refine cf (decide_eq_false g3) ?_
          by_cases h0 : i = 0
          · subst h0
            rw [decide_eq_true rfl, if_neg (by simp)]
            exact cf (decide_eq_false (by simp)) rfl
          · rw [wrap64 (n := (i : Int) - 1) (by omega) (by omega), show ((i : Int) - 1).toNat = i - 1 by omega, decide_eq_false h0]
            generalize Abs.rowAt v (i - 1) = q
            refine ct (decide_eq_true (by omega)) (ct (inB_of (by omega) (by omega)) (ct hib ?_))
            by_cases h2 : nr r 0 ≤ nr q 0
            · rw [if_pos ⟨rfl, h2⟩]
              exact ct (decide_eq_true h2) rfl
            · rw [if_neg (fun h => h2 h.2)]
              exact cf (decide_eq_false h2) rfl

theorem vVecF_first (q q' : List Cell) (l : List (List Cell)) : vVecF true q l = vVecF true q' l := by
  cases l <;> simp [vVecF]

theorem k27 (v : List (List Cell)) (h : okLn v = true) : ∃ m, runF E (callOf L40) m 27 [.one (.sl false 103 v)] [] = some ([.one (.int .i64 (vVec v))], []) := by
  obtain ⟨m, hm⟩ := l27 v (okLn_of h) v.length 0 (by omega)
  refine ⟨m + 1, ?_⟩
  rw [e27]
  refine Eq.trans hm ?_
  rw [decide_eq_true rfl, List.drop_zero, vVecF_first _ []]
  rfl

structure Fit (c : List (List Cell)) : Prop where
  vld : Vld c
  prop : ∀ r ∈ c, vPropR r = 0
  pr : c.all isPR = true
  len : c.length ≤ 9

structure PInv (a i : Nat) (acc : List (List Cell)) : Prop where
  asc : Asc acc
  gap : Gap acc
  low : ∀ r ∈ acc, nr r 0 < 201 + a ∨ (nr r 0 = 201 + a ∧ nr r 1 ≤ i)
  last : 0 < i → ∃ q ∈ acc, nr q 0 = 201 + a ∧ nr q 1 = i
  pr : acc.all isPR = true

end Go.Proofs.YtejimgikldiajaaGreat

namespace Go.Proofs.YtejimgikldiajaaGreat

open Go.Abs

theorem k144 (k1 s1 w1 v1 rk1 rc1 rf1 k2 s2 w2 v2 rk2 rc2 rf2 : Int) : runF E (callOf L27) 1 144 [.agg [.int .i64 k1, .int .i64 s1, .int .i64 w1, .int .i64 v1, .int .i64 rk1, .int .i64 rc1, .int .i64 rf1], .agg [.int .i64 k2, .int .i64 s2, .int .i64 w2, .int .i64 v2, .int .i64 rk2, .int .i64 rc2, .int .i64 rf2]] [] =
    some ([.one (.bool (eqCh k1 s1 w1 v1 rk1 rc1 rf1 k2 s2 w2 v2 rk2 rc2 rf2))], []) := by
  rw [e144]
  unfold eqCh
  generalize (k1 == k2) = b1
  generalize (s1 == s2) = b2
  generalize (w1 == w2) = b3
  generalize (v1 == v2) = b4
  generalize (rk1 == rk2) = b5
  generalize (rc1 == rc2) = b6
  generalize (rf1 == rf2) = b7
  cases b1 <;> cases b2 <;> cases b3 <;> cases b4 <;> cases b5 <;> cases b6 <;> cases b7 <;> rfl

theorem l132 (c d : List (List Cell)) (b k : Int) (hc : c.length < 9223372036854775808) (hd : c.length = d.length) : ∀ (e i : Nat), i + e = c.length →
    ∃ m, goF E (callOf L144) F132 0 m P132_0 (M132_0 c c.length i b k d) = some ([.one (.bool (eqChs (c.drop i) (d.drop i)))], [])
  | 0, i, hi => by
    refine ⟨1, ?_⟩
    rw [e132_0]
    refine cf (by simp; omega) ?_
    have : c.drop i = [] := List.drop_eq_nil_of_le (by omega)
    rw [this, eqChs]
  | e + 1, i, hi => by
    obtain ⟨m, hm⟩ := l132 c d b k hc hd e (i + 1) (by omega)
    refine ⟨m + 1, ?_⟩
    rw [e132_0]
    refine ct (by simp; omega) (ct (inB_nat' (by omega)) (ct (inB_nat' (by omega)) ?_))
    rw [drop_cons c i (by omega), eqChs, Int.toNat_natCast, nat_wrap (n := c.length) (by omega) hc, hm, rowAt_drop, List.drop_drop, Nat.add_zero]
    show cond (!(eqChR (Abs.rowAt c i) (Abs.rowAt d i))) _ _ = _
    generalize eqChR (Abs.rowAt c i) (Abs.rowAt d i) = b1
    cases b1 <;> rfl

theorem k132 (a n : Int) (c : List (List Cell)) (b k : Int) (d : List (List Cell)) (hc : c.length < 9223372036854775808) : ∃ m, runF E (callOf L144) m 132 [.agg [.int .i64 a, .int .i64 n, .sl false 89 c], .agg [.int .i64 b, .int .i64 k, .sl false 89 d]] [] =
    some ([.one (.bool (eqP a n c b k d))], []) := by
  by_cases hd : c.length = d.length
  · obtain ⟨m, hm⟩ := l132 c d b k hc hd c.length 0 (by omega)
    refine ⟨m + 1, ?_⟩
    rw [e132, show (0 : Int) = ((0 : Nat) : Int) from rfl, hm]
    unfold eqP bne
    rw [List.drop_zero, List.drop_zero]
    generalize (a == b) = b1
    generalize (n == k) = b2
    generalize eqChs c d = b3
    rw [show ((c.length : Int) == (d.length : Int)) = true by simp; omega, decide_eq_true hd]
    cases b1 <;> cases b2 <;> cases b3 <;> rfl
  · refine ⟨1, ?_⟩
    rw [e132]
    unfold eqP bne
    generalize (a == b) = b1
    generalize (n == k) = b2
    rw [show ((c.length : Int) == (d.length : Int)) = false by simp; omega, decide_eq_false hd]
    cases b1 <;> cases b2 <;> rfl

end Go.Proofs.YtejimgikldiajaaGreat

namespace Go.Proofs.YtejimgikldiajaaGreat

open Go.Abs

theorem k131 (aq nq : Int) (cq : List (List Cell)) (a n : Int) (l : List (List Cell)) (h : l.length < 9223372036854775808) :
    runF E (callOf L132) 1 131 [.agg [.int .i64 aq, .int .i64 nq, .sl false 89 cq], .one (.ptr 0 0)] [.var [.int .i64 a, .int .i64 n, .sl false 89 l]] = some ([.one (.bool (eqP a n l aq nq cq))], [.var [.int .i64 a, .int .i64 n, .sl false 89 l]]) := by
  rw [e131]
  exact ct (decide_eq_true h) rfl

theorem idxPF_range (a n : Int) (l : List (List Cell)) : ∀ (c : List (List Cell)) (i : Int), 0 ≤ i → (0 ≤ idxPF a n l i c ↔ inP a n l c = true)
  | [], i, h => by simp [idxPF, inP]
  | q :: c, i, h => by
    have ih := idxPF_range a n l c (i + 1) (by omega)
    unfold idxPF
    unfold inP at ih ⊢
    rw [List.any_cons]
    by_cases hr : isP a n l q = true
    · simp [hr, h]
    · rw [if_neg hr, ih]
      simp [hr]

theorem l143 (c : List (List Cell)) (a n : Int) (l : List (List Cell)) (hl : l.length < 9223372036854775808) (hc : c.length ≤ 1000) : ∀ (d i : Nat), i + d = c.length →
    ∃ m, goF E (callOf L131) F143 1 m P143_0 (M143_0 c c.length i a n l) = some ([.one (.int .i64 (idxPF a n l i (c.drop i)))], [.var [.int .i64 a, .int .i64 n, .sl false 89 l]])
  | 0, i, hi => by
    refine ⟨1, ?_⟩
    rw [e143_0]
    have : c.drop i = [] := List.drop_eq_nil_of_le (by omega)
    rw [this, idxPF]
    exact cf (decide_eq_false (by omega)) rfl
  | d + 1, i, hi => by
    obtain ⟨m, hm⟩ := l143 c a n l hl hc d (i + 1) (by omega)
    refine ⟨m + 1, ?_⟩
    rw [e143_0, drop_cons c i (by omega), idxPF, Int.toNat_natCast]
    refine ct (decide_eq_true (by omega)) (ct (inB_nat' (by omega)) (ct (decide_eq_true hl) ?_))
    show cond (isP a n l (Abs.rowAt c i)) _ _ = _
    by_cases hr : isP a n l (Abs.rowAt c i) = true
    · rw [if_pos hr]
      exact ct hr rfl
    · rw [if_neg hr, nat_wrap (n := c.length) (by omega) (by omega)]
      refine cf (by simpa using hr) ?_
      rw [hm]
      rfl

theorem okL_of {c l : List (List Cell)} (h : (okRows c && decide (l.length < 9223372036854775808)) = true) : okRows c = true ∧ l.length < 9223372036854775808 := by
  simpa using h

theorem k143 (c : List (List Cell)) (a n : Int) (l : List (List Cell)) (h : (okRows c && decide (l.length < 9223372036854775808)) = true) :
    ∃ m, runF E (callOf L131) m 143 [.one (.sl false 93 c), .one (.fn 131 [.ptr 0 0])] [.var [.int .i64 a, .int .i64 n, .sl false 89 l]] = some ([.one (.int .i64 (idxP a n l c))], [.var [.int .i64 a, .int .i64 n, .sl false 89 l]]) := by
  obtain ⟨h1, h2⟩ := okL_of h
  obtain ⟨m, hm⟩ := l143 c a n l h2 (okRows_of h1).1 c.length 0 (by omega)
  exact ⟨m + 1, by rw [e143]; exact hm⟩

theorem k130 (c : List (List Cell)) (a n : Int) (l : List (List Cell)) (h : (okRows c && decide (l.length < 9223372036854775808)) = true) :
    runF E (callOf L143) 1 130 [.one (.sl false 93 c), .one (.fn 131 [.ptr 0 0])] [.var [.int .i64 a, .int .i64 n, .sl false 89 l]] = some ([.one (.bool (inP a n l c))], [.var [.int .i64 a, .int .i64 n, .sl false 89 l]]) := by
  rw [e130]
  refine ct h ?_
  have h := idxPF_range a n l c 0 (by omega)
  refine congrArg (fun z => some ([AV.one (AC.bool z)], ([.var [.int .i64 a, .int .i64 n, .sl false 89 l]] : List Block))) ?_
  unfold idxP
  cases hc : inP a n l c
  · rw [hc] at h
    exact decide_eq_false (fun h0 => by cases h.1 h0)
  · rw [hc] at h
    exact decide_eq_true (h.2 rfl)

theorem l111 (c d : List (List Cell)) (hc : okRows c = true) (hd : okRows d = true) : ∀ (e i : Nat), i + e = d.length →
    ∃ m, goF E (callOf L130) F111 0 m P111_0 (M111_0 c d d.length i) = some ([.one (.bool (incl c (d.drop i)))], [])
  | 0, i, hi => by
    refine ⟨1, ?_⟩
    rw [e111_0]
    have : d.drop i = [] := List.drop_eq_nil_of_le (by omega)
    rw [this]
    exact cf (decide_eq_false (by omega)) rfl
  | e + 1, i, hi => by
    obtain ⟨hd1, hd2⟩ := okRows_of hd
    have hi' : i < d.length := by omega
    obtain ⟨m, hm⟩ := l111 c d hc hd e (i + 1) (by omega)
    have hs := short_at hd2 hi'
    refine ⟨m + 1, ?_⟩
    rw [e111_0, drop_cons d i hi', Int.toNat_natCast, nat_wrap (n := d.length) hi' (by omega), hm]
    refine ct (decide_eq_true (by omega)) (ct (inB_nat' hi') (ct (by rw [hc, decide_eq_true hs]; rfl) ?_))
    unfold incl
    rw [List.all_cons]
    generalize inP (nr (Abs.rowAt d i) 0) (nr (Abs.rowAt d i) 1) (nl (Abs.rowAt d i) 2) c = b
    cases b <;> rfl

theorem ok2_of {c d : List (List Cell)} (h : (okRows c && okRows d) = true) : okRows c = true ∧ okRows d = true := by
  simpa using h

theorem k111 (c d : List (List Cell)) (h : (okRows c && okRows d) = true) : ∃ m, runF E (callOf L130) m 111 [.one (.sl false 93 c), .one (.sl false 93 d)] [] = some ([.one (.bool (incl c d))], []) := by
  obtain ⟨h1, h2⟩ := ok2_of h
  obtain ⟨m, hm⟩ := l111 c d h1 h2 d.length 0 (by omega)
  exact ⟨m + 1, by rw [e111]; exact hm⟩

theorem eqCh_swap (a b c d e f g h i j k l m n : Int) : eqCh a b c d e f g h i j k l m n = eqCh h i j k l m n a b c d e f g := by
  rw [Bool.eq_iff_iff]
  simp only [eqCh, Bool.and_eq_true, beq_iff_eq]
  omega

theorem eqChs_swap : ∀ (c d : List (List Cell)), c.length = d.length → eqChs c d = eqChs d c
  | [], [], _ => rfl
  | [], _ :: _, h => by simp at h
  | _ :: _, [], h => by simp at h
  | r :: c, q :: d, h => by
    simp only [eqChs, List.drop_one, List.tail_cons]
    rw [eqChs_swap c d (by simpa using h)]
    show (eqChR r q && _) = (eqChR q r && _)
    rw [show eqChR r q = eqChR q r from eqCh_swap _ _ _ _ _ _ _ _ _ _ _ _ _ _]

theorem eqP_swap (a n : Int) (c : List (List Cell)) (b m : Int) (d : List (List Cell)) : eqP a n c b m d = eqP b m d a n c := by
  unfold eqP
  by_cases h : c.length = d.length
  · rw [eqChs_swap c d h, h]
    rw [Bool.eq_iff_iff]
    simp only [Bool.and_eq_true, beq_iff_eq, decide_eq_true_eq]
    constructor
    · rintro ⟨⟨⟨h1, h2⟩, _⟩, h3⟩; exact ⟨⟨⟨h1.symm, h2.symm⟩, trivial⟩, h3⟩
    · rintro ⟨⟨⟨h1, h2⟩, _⟩, h3⟩; exact ⟨⟨⟨h1.symm, h2.symm⟩, trivial⟩, h3⟩
  · rw [decide_eq_false h, decide_eq_false (Ne.symm h)]
    simp

theorem l72i (c d : List (List Cell)) (hc : okRows c = true) (hd : d.length ≤ 1000) (i : Nat) (hi : i < d.length) {r : List AV × List Block} (hout : ∃ m, goF E (callOf L111) F72 0 m P72_0 (M72_0 c d ((i : Int) + 1)) = some r) : ∀ (e k : Nat) (f : Bool), k + e = c.length →
    ∃ m, goF E (callOf L111) F72 0 m P72_1 (M72_1 c d i f k) = some (if (f || inP (nr (Abs.rowAt d i) 0) (nr (Abs.rowAt d i) 1) (nl (Abs.rowAt d i) 2) (c.drop k)) = true then r else ([.one (.bool false)], []))
  | 0, k, f, hk => by
    obtain ⟨m, hm⟩ := hout
    refine ⟨m + 1, ?_⟩
    rw [e72_1]
    have : c.drop k = [] := List.drop_eq_nil_of_le (by omega)
    rw [this]
    refine cf (decide_eq_false (by omega)) ?_
    cases f
    · rfl
    · refine cf rfl ?_
      rw [wrap64 (n := (i : Int) + 1) (by omega) (by omega)]
      exact hm
  | e + 1, k, f, hk => by
    obtain ⟨hc1, hc2⟩ := okRows_of hc
    have hk' : k < c.length := by omega
    have hs := short_at hc2 hk'
    cases f
    · obtain ⟨m, hm⟩ := l72i c d hc hd i hi hout e (k + 1) (isP (nr (Abs.rowAt d i) 0) (nr (Abs.rowAt d i) 1) (nl (Abs.rowAt d i) 2) (Abs.rowAt c k)) (by omega)
      refine ⟨m + 1, ?_⟩
      rw [e72_1, Int.toNat_natCast, Int.toNat_natCast, nat_wrap (n := c.length) hk' (by omega), eqP_swap]
      refine ct (decide_eq_true (by omega)) (cf rfl (ct (inB_nat' hk') (ct (inB_nat' hi) (ct (decide_eq_true hs) ?_))))
      refine Eq.trans hm ?_
      rw [drop_cons c k hk']
      unfold inP
      rw [List.any_cons, Bool.false_or]
    · obtain ⟨m, hm⟩ := l72i c d hc hd i hi hout e (k + 1) true (by omega)
      refine ⟨m + 1, ?_⟩
      rw [e72_1, nat_wrap (n := c.length) hk' (by omega), hm]
      refine ct (decide_eq_true (by omega)) ?_
      simp

theorem l72 (c d : List (List Cell)) (hc : okRows c = true) (hd : okRows d = true) : ∀ (e i : Nat), i + e = d.length →
    ∃ m, goF E (callOf L111) F72 0 m P72_0 (M72_0 c d i) = some ([.one (.bool (incl c (d.drop i)))], [])
  | 0, i, hi => by
    refine ⟨1, ?_⟩
    rw [e72_0]
    have : d.drop i = [] := List.drop_eq_nil_of_le (by omega)
    rw [this]
    exact cf (decide_eq_false (by omega)) rfl
  | e + 1, i, hi => by
    have hi' : i < d.length := by omega
    obtain ⟨m, hm⟩ := l72i c d hc (okRows_of hd).1 i hi' (l72 c d hc hd e (i + 1) (by omega)) c.length 0 false (by omega)
    refine ⟨m + 1, ?_⟩
    rw [e72_0]
    refine ct (decide_eq_true (by omega)) (Eq.trans hm ?_)
    rw [drop_cons d i hi', List.drop_zero, Bool.false_or]
    unfold incl
    rw [List.all_cons]
    generalize inP (nr (Abs.rowAt d i) 0) (nr (Abs.rowAt d i) 1) (nl (Abs.rowAt d i) 2) c = b
    cases b <;> rfl

theorem k72 (c d : List (List Cell)) (h : (okRows c && okRows d) = true) : ∃ m, runF E (callOf L111) m 72 [.one (.sl false 93 c), .one (.sl false 93 d)] [] = some ([.one (.bool (incl c d))], []) := by
  obtain ⟨h1, h2⟩ := ok2_of h
  obtain ⟨m, hm⟩ := l72 c d h1 h2 d.length 0 (by omega)
  exact ⟨m + 1, by rw [e72]; exact hm⟩

theorem tail_cert {f t : List (List Cell)} (h1 : vCfg f = 0) (h2 : vCfg t = 0) : vCert f t = if incl t f = true then 0 else 2 := by
  unfold vCert
  rw [if_neg (by simpa using h1), if_neg (by simpa using h2)]

theorem k63 (f t : List (List Cell)) (h : (okRows f && okRows t) = true) : ∃ m, runF E (callOf L72) m 63 [.agg [.sl false 93 f, .sl false 93 t]] [] = some ([.one (.int .i64 (vCert f t))], []) := by
  obtain ⟨h1, h2⟩ := ok2_of h
  have e0 : nl (Abs.rowAt [[Cell.slice 93 f], [Cell.slice 93 t]] 0) 0 = f := rfl
  have e1 : nl (Abs.rowAt [[Cell.slice 93 f], [Cell.slice 93 t]] 1) 0 = t := rfl
  refine ⟨4, ?_⟩
  rw [e63, e63_0]
  refine ct (by decide) (ct rfl (ct h1 ?_))
  show cond (vCfg f != 0) (some ([AV.one (.int .i64 (vCfg f))], ([] : List Block))) (goF E (callOf L72) F63 0 2 P63_0 (M63_0 [[Cell.slice 93 f], [Cell.slice 93 t]] 2 1 f t)) = _
  by_cases hf : vCfg f = 0
  · refine cf (by simpa using hf) ?_
    rw [e63_0]
    refine ct (by decide) (ct rfl (ct h2 ?_))
    show cond (vCfg t != 0) (some ([AV.one (.int .i64 (vCfg t))], ([] : List Block))) (goF E (callOf L72) F63 0 1 P63_0 (M63_0 [[Cell.slice 93 f], [Cell.slice 93 t]] 2 2 f t)) = _
    by_cases ht : vCfg t = 0
    · refine cf (by simpa using ht) ?_
      rw [e63_0, tail_cert hf ht]
      refine cf (by decide) (ct (by rw [h1, h2]; rfl) ?_)
      cases incl t f <;> rfl
    · refine ct (by simpa using ht) ?_
      unfold vCert
      rw [if_neg (by simpa using hf), if_pos ht]
  · refine ct (by simpa using hf) ?_
    unfold vCert
    rw [if_pos hf]

theorem k26 (f t : List (List Cell)) (h : (okRows f && okRows t) = true) : runF E (callOf L63) 1 26 [.agg [.sl false 93 f, .sl false 93 t]] [] = some ([.one (.int .i64 (vCert f t))], []) := by
  obtain ⟨h1, h2⟩ := ok2_of h
  rw [e26]
  refine ct h1 ?_
  by_cases hf : vCfg f = 0
  · refine cf (by simpa using hf) (ct h2 ?_)
    by_cases ht : vCfg t = 0
    · refine cf (by simpa using ht) (ct (by rw [h1, h2]; rfl) ?_)
      rw [tail_cert hf ht]
      cases incl t f <;> rfl
    · refine ct (by simpa using ht) (ct h2 ?_)
      unfold vCert
      rw [if_neg (by simpa using hf), if_pos ht]
  · refine ct (by simpa using hf) (ct h1 ?_)
    unfold vCert
    rw [if_pos hf]

theorem k37 (f t f2 t2 : List (List Cell)) (h : (okRows f && okRows t) = true) : runF E (callOf L26) 1 37 [.agg [.sl false 93 f, .sl false 93 t], .agg [.sl false 93 f2, .sl false 93 t2]] [] = some ([.one (.bool (eqCfg f f2 && eqCfg t t2))], []) := by
  obtain ⟨h1, h2⟩ := ok2_of h
  rw [e37]
  refine ct h1 ?_
  cases eqCfg f f2
  · rfl
  · exact ct rfl (ct h2 rfl)

theorem decPs_at (x : List (List Cell)) (hx : okRd x = true) : ∀ (k : Nat) (o : Int) (acc : List (List Cell)), 0 ≤ o → o ≤ x.length → 0 ≤ (decPs x k o acc).2.1 ∧ (decPs x k o acc).2.1 ≤ x.length
  | 0, o, acc, h0, h1 => ⟨h0, h1⟩
  | k + 1, o, acc, h0, h1 => by
    simp only [decPs]
    split
    · exact ⟨Int.le_refl _, by simp⟩
    · have hb := decP_bound (okRd_drop hx o.toNat)
      rw [List.length_drop] at hb
      exact decPs_at x hx k _ _ (by omega) (by omega)

theorem decC_bound {x : List (List Cell)} (hx : okRd x = true) : 0 ≤ (decC x).2.1 ∧ (decC x).2.1 ≤ x.length := by
  unfold decC
  split
  · simp
  · rename_i he
    have hb := udec_bound (okRd_of hx).1 (by simpa using he)
    split
    · simp
    · unfold finC
      split
      · simp
      · split
        · simp
        · exact decPs_at x hx _ _ _ (by omega) (by omega)

theorem k81 (x : List (List Cell)) (hx : okRd x = true) : runF E (callOf L37) 1 81 [.one (.sl false 5 x)] [] = some ([.agg [.sl true 93 (decT x).1, .sl true 93 (decT x).2.1], .one (.int .i64 (decT x).2.2.1), .one (.int .i64 (decT x).2.2.2)], []) := by
  have hb := decC_bound hx
  have hl := (okRd_of hx).2
  have hx2 := okRd_drop hx (decC x).2.1.toNat
  have hb2 := decC_bound hx2
  rw [List.length_drop] at hb2
  rw [e81, show dropN x 0 = x from by rw [dropN_eq, List.drop_zero], dropN_eq, Int.zero_add, wrap64 (n := (decC x).2.1) (by omega) (by omega)]
  refine ct (inB_of (by omega) (by omega)) (ct hx ?_)
  unfold decT
  simp only
  by_cases h1 : (decC x).2.2 = 0
  · refine cf (by simpa using h1) (ct (inB_of (by omega) (by omega)) (ct hx2 ?_))
    rw [if_neg (by simpa using h1)]
    by_cases h2 : (decC (x.drop (decC x).2.1.toNat)).2.2 = 0
    · refine cf (by simpa using h2) (ct (by rw [decC_rows hx, decC_rows hx2]; rfl) ?_)
      rw [if_neg (by simpa using h2)]
      by_cases h3 : vCert (decC x).1 (decC (x.drop (decC x).2.1.toNat)).1 = 0
      · refine cf (by simpa using h3) ?_
        rw [if_neg (by simpa using h3), wrap64 (by omega) (by omega)]
      · refine ct (by simpa using h3) ?_
        rw [if_pos h3]
    · refine ct (by simpa using h2) ?_
      rw [if_pos h2]
  · refine ct (by simpa using h1) ?_
    rw [if_pos h1]

theorem k89 (x : List (List Cell)) (hx : okRd x = true) : runF E (callOf L81) 1 89 [.one (.sl false 5 x)] [] = some ([.agg [.sl false 93 (decT x).1, .sl false 93 (decT x).2.1], .one (.int .i64 (decT x).2.2.1), .one (.int .i64 (decT x).2.2.2)], []) := by
  have hb := decC_bound hx
  have hl := (okRd_of hx).2
  have hx2 := okRd_drop hx (decC x).2.1.toNat
  have hb2 := decC_bound hx2
  rw [List.length_drop] at hb2
  rw [e89, dropN_eq]
  refine ct hx ?_
  unfold decT
  simp only
  by_cases h1 : (decC x).2.2 = 0
  · refine cf (by simpa using h1) (ct (inB_of (by omega) (by omega)) (ct hx2 ?_))
    rw [if_neg (by simpa using h1)]
    by_cases h2 : (decC (x.drop (decC x).2.1.toNat)).2.2 = 0
    · refine cf (by simpa using h2) (ct (by rw [decC_rows hx, decC_rows hx2]; rfl) ?_)
      rw [if_neg (by simpa using h2)]
      by_cases h3 : vCert (decC x).1 (decC (x.drop (decC x).2.1.toNat)).1 = 0
      · refine cf (by simpa using h3) ?_
        rw [if_neg (by simpa using h3), wrap64 (by omega) (by omega)]
      · refine ct (by simpa using h3) ?_
        rw [if_pos h3]
    · refine ct (by simpa using h2) ?_
      rw [if_pos h2]
  · refine ct (by simpa using h1) ?_
    rw [if_pos h1]

theorem decT_rows {x : List (List Cell)} (hx : okRd x = true) : (okRows (decT x).1 && okRows (decT x).2.1) = true := by
  unfold decT
  simp only
  split
  · rfl
  · split
    · rfl
    · split
      · rfl
      · simp only
        rw [decC_rows hx, decC_rows (okRd_drop hx _)]
        rfl

end Go.Proofs.YtejimgikldiajaaGreat

namespace Go.Proofs.YtejimgikldiajaaGreat

open Go.Abs

theorem k66 (n : Int) : runF E (callOf L89) 1 66 [.one (.int .i64 n)] [] = some ([.one (.bool (isClient n))], []) := by
  rw [e66]; unfold isClient
  generalize decide (n ≥ 101) = b
  cases b <;> rfl

theorem k151 (s : List UInt8) : runF E (callOf L66) 1 151 [.one (.str s)] [] = some ([.one (.bool s.isEmpty)], []) := by kernel_rfl

theorem nil_l {s : List UInt8} : s = [] ↔ s.length = 0 := by
  cases s <;> simp

theorem emp_t {s : List UInt8} : s.isEmpty = true ↔ s.length = 0 := by
  cases s <;> simp

theorem emp_f {s : List UInt8} : s.isEmpty = false ↔ s.length ≠ 0 := by
  cases s <;> simp

theorem vEff_cases (k : Int) (o f : List UInt8) (n : Int) (s : List UInt8) :
    (vEff k o f n s = 10 ∧ (k < 1 ∨ 5 < k)) ∨
    (1 ≤ k ∧ k ≤ 5 ∧ ((vEff k o f n s = 2 ∧ (o.length = 0 ∨ f.length = 0)) ∨
      (o.length ≠ 0 ∧ f.length ≠ 0 ∧ ((vEff k o f n s = 3 ∧ (16 < o.length ∨ 16 < f.length ∨ 32 < s.length)) ∨
        (o.length ≤ 16 ∧ f.length ≤ 16 ∧ s.length ≤ 32 ∧ ((vEff k o f n s = 9 ∧ ((k = 3 ∧ (n < -1000000 ∨ 1000000 < n)) ∨ ((k = 4 ∨ k = 5) ∧ n ≠ 0))) ∨
          (¬ (k = 3 ∧ (n < -1000000 ∨ 1000000 < n)) ∧ ¬ ((k = 4 ∨ k = 5) ∧ n ≠ 0) ∧ ((vEff k o f n s = 2 ∧ (k = 2 ∨ k = 3 ∨ k = 5) ∧ s.length ≠ 0) ∨ (vEff k o f n s = 0 ∧ ¬ ((k = 2 ∨ k = 3 ∨ k = 5) ∧ s.length ≠ 0)))))))))) := by
  unfold vEff
  simp only [nil_l, ne_eq]
  generalize o.length = a
  generalize f.length = b
  generalize s.length = c
  split
  · omega
  · split
    · omega
    · split
      · omega
      · split
        · omega
        · split
          · omega
          · split <;> omega

theorem k141 (k : Int) (o f : List UInt8) (n : Int) (s : List UInt8) : runF E (callOf L151) 1 141 [.agg [.int .i64 k, .str o, .str f, .int .i64 n, .str s]] [] = some ([.one (.int .i64 (vEff k o f n s))], []) := by
  rw [e141]
  have hz := vEff_cases k o f n s
  generalize vEff k o f n s = z at *
  repeat' (refine cs (fun _ => ?_) (fun _ => ?_))
  all_goals refine congrArg (fun z => some ([AV.one (AC.int .i64 z)], ([] : List Block))) ?_
  all_goals simp only [nil_l, emp_t, emp_f, Bool.not_eq_true', Bool.not_eq_false', bne_iff_ne, bne_eq_false_iff_eq, decide_eq_true_eq, beq_iff_eq, beq_eq_false_iff_ne, decide_eq_false_iff_not, ne_eq] at *
  all_goals omega

theorem k114 (k : Int) (o f : List UInt8) (n : Int) (s : List UInt8) : runF E (callOf L141) 1 114 [.agg [.int .i64 k, .str o, .str f, .int .i64 n, .str s]] [] = some ([.one (.int .i64 (vEff k o f n s))], []) := by
  rw [e114]
  have hz := vEff_cases k o f n s
  generalize vEff k o f n s = z at *
  repeat' (refine cs (fun _ => ?_) (fun _ => ?_))
  all_goals refine congrArg (fun z => some ([AV.one (AC.int .i64 z)], ([] : List Block))) ?_
  all_goals simp only [nil_l, emp_t, emp_f, Bool.not_eq_true', Bool.not_eq_false', bne_iff_ne, bne_eq_false_iff_eq, decide_eq_true_eq, beq_iff_eq, beq_eq_false_iff_ne, decide_eq_false_iff_not, ne_eq] at *
  all_goals omega

theorem k153 (k : Int) (o f : List UInt8) (n : Int) (s : List UInt8) : runF E (callOf L114) 1 153 [.agg [.int .i64 k, .str o, .str f, .int .i64 n, .str s]] [] = some ([.one (.bool (k == 1))], []) := by
  rw [e153]

theorem idxWF_range : ∀ (l : List (List Cell)) (i : Int), 0 ≤ i → (0 ≤ idxWF i l ↔ comm l = false)
  | [], i, h => by simp [idxWF, comm]
  | r :: l, i, h => by
    have ih := idxWF_range l (i + 1) (by omega)
    unfold idxWF
    unfold comm at ih ⊢
    rw [List.all_cons]
    by_cases hr : nr r 0 = 1
    · simp [hr, h]
    · rw [if_neg hr, ih]
      simp [hr]

theorem l156 (l : List (List Cell)) (hl : l.length < 9223372036854775808) : ∀ (d i : Nat), i + d = l.length →
    ∃ m, goF E (callOf L153) F156 0 m P156_0 (M156_0 l l.length i) = some ([.one (.int .i64 (idxWF i (l.drop i)))], [])
  | 0, i, hi => by
    refine ⟨1, ?_⟩
    rw [e156_0]
    have : l.drop i = [] := List.drop_eq_nil_of_le (by omega)
    rw [this, idxWF]
    exact cf (decide_eq_false (by omega)) rfl
  | d + 1, i, hi => by
    obtain ⟨m, hm⟩ := l156 l hl d (i + 1) (by omega)
    refine ⟨m + 1, ?_⟩
    rw [e156_0, drop_cons l i (by omega), idxWF, Int.toNat_natCast]
    refine ct (decide_eq_true (by omega)) (ct (inB_nat' (by omega)) ?_)
    by_cases hr : nr (Abs.rowAt l i) 0 = 1
    · rw [if_pos hr]
      exact ct (by simpa using hr) rfl
    · rw [if_neg hr, nat_wrap (n := l.length) (by omega) hl]
      refine cf (by simpa using hr) ?_
      rw [hm]
      rfl

theorem k156 (l : List (List Cell)) (hl : l.length < 9223372036854775808) : ∃ m, runF E (callOf L153) m 156 [.one (.sl false 136 l), .one (.fn 153 [])] [] = some ([.one (.int .i64 (idxW l))], []) := by
  obtain ⟨m, hm⟩ := l156 l hl l.length 0 (by omega)
  exact ⟨m + 1, by rw [e156]; exact hm⟩

theorem k152 (l : List (List Cell)) (hl : l.length < 9223372036854775808) : runF E (callOf L156) 1 152 [.one (.sl false 136 l), .one (.fn 153 [])] [] = some ([.one (.bool (!(comm l)))], []) := by
  rw [e152]
  refine ct (decide_eq_true hl) ?_
  have h := idxWF_range l 0 (by omega)
  refine congrArg (fun z => some ([AV.one (AC.bool z)], ([] : List Block))) ?_
  unfold idxW
  cases hc : comm l
  · rw [hc] at h
    exact decide_eq_true (h.2 rfl)
  · rw [hc] at h
    exact decide_eq_false (fun h0 => by cases h.1 h0)

theorem k142 (c q t : Int) (l : List (List Cell)) (hl : l.length < 9223372036854775808) : runF E (callOf L152) 1 142 [.agg [.int .i64 c, .int .i64 q, .int .i64 t, .sl false 136 l]] [] = some ([.one (.bool (comm l))], []) := by
  rw [e142]
  refine ct (decide_eq_true hl) ?_
  simp

theorem l115 (c q t : Int) (l : List (List Cell)) (hl : l.length < 9223372036854775808) : ∀ (d i : Nat), i + d = l.length →
    ∃ m, goF E (callOf L142) F115 0 m P115_0 (M115_0 i c q t l) = some ([.one (.bool (comm (l.drop i)))], [])
  | 0, i, hi => by
    refine ⟨1, ?_⟩
    rw [e115_0]
    have : l.drop i = [] := List.drop_eq_nil_of_le (by omega)
    rw [this]
    exact cf (decide_eq_false (by omega)) rfl
  | d + 1, i, hi => by
    obtain ⟨m, hm⟩ := l115 c q t l hl d (i + 1) (by omega)
    refine ⟨m + 1, ?_⟩
    rw [e115_0, drop_cons l i (by omega), Int.toNat_natCast, nat_wrap (n := l.length) (by omega) hl, hm]
    refine ct (decide_eq_true (by omega)) (ct (inB_nat' (by omega)) ?_)
    unfold comm
    rw [List.all_cons]
    generalize (nr (Abs.rowAt l i) 0 == 1) = b
    cases b <;> rfl

theorem k115 (c q t : Int) (l : List (List Cell)) (hl : l.length < 9223372036854775808) : ∃ m, runF E (callOf L142) m 115 [.agg [.int .i64 c, .int .i64 q, .int .i64 t, .sl false 136 l]] [] = some ([.one (.bool (comm l))], []) := by
  obtain ⟨m, hm⟩ := l115 c q t l hl l.length 0 (by omega)
  exact ⟨m + 1, by rw [e115]; exact hm⟩

def tailU (t : Int) (l : List (List Cell)) : Int := if (comm l = true ∧ t ≠ 0) ∨ (comm l = false ∧ 1 < l.length) then 2 else 0

theorem l128 (c q t : Int) (l : List (List Cell)) (hl : l.length ≤ 4) : ∀ (d i : Nat), i + d = l.length →
    ∃ m, goF E (callOf L115) F128 0 m P128_0 (M128_0 l l.length i c q t l) = some ([.one (.int .i64 (if vEffs (l.drop i) ≠ 0 then vEffs (l.drop i) else tailU t l))], [])
  | 0, i, hi => by
    refine ⟨1, ?_⟩
    rw [e128_0]
    have : l.drop i = [] := List.drop_eq_nil_of_le (by omega)
    rw [this, vEffs, if_neg (by simp)]
    refine cf (decide_eq_false (by omega)) (ct (decide_eq_true (by omega)) ?_)
    unfold tailU
    cases comm l
    all_goals repeat' (refine cs (fun _ => ?_) (fun _ => ?_))
    all_goals refine congrArg (fun z => some ([AV.one (AC.int .i64 z)], ([] : List Block))) ?_
    all_goals simp only [bne_iff_ne, bne_eq_false_iff_eq, decide_eq_true_eq, decide_eq_false_iff_not, Bool.not_true, Bool.not_false, Bool.true_eq_false, Bool.false_eq_true, false_and, true_and, or_false, false_or] at *
    all_goals ((repeat' split) <;> omega)
  | d + 1, i, hi => by
    obtain ⟨m, hm⟩ := l128 c q t l hl d (i + 1) (by omega)
    refine ⟨m + 1, ?_⟩
    rw [e128_0, drop_cons l i (by omega), vEffs, Int.toNat_natCast, nat_wrap (n := l.length) (by omega) (by omega), hm]
    refine ct (decide_eq_true (by omega)) (ct (inB_nat' (by omega)) ?_)
    show cond (vEffR (Abs.rowAt l i) != 0) (some ([AV.one (AC.int .i64 (vEffR (Abs.rowAt l i)))], ([] : List Block))) _ = _
    by_cases h0 : vEffR (Abs.rowAt l i) = 0
    · rw [if_neg (show ¬ vEffR (Abs.rowAt l i) ≠ 0 by simpa using h0)]
      exact cf (by simpa using h0) rfl
    · simp only [if_pos h0]
      exact ct (by simpa using h0) (by simp [h0])

theorem k128 (c q t : Int) (l : List (List Cell)) : ∃ m, runF E (callOf L115) m 128 [.agg [.int .i64 c, .int .i64 q, .int .i64 t, .sl false 136 l]] [] = some ([.one (.int .i64 (vUpd c q t l))], []) := by
  by_cases hl : l.length ≤ 4
  · obtain ⟨m, hm⟩ := l128 c q t l hl l.length 0 (by omega)
    refine ⟨m + 1, ?_⟩
    rw [e128, show (0 : Int) = ((0 : Nat) : Int) from rfl, hm, List.drop_zero]
    unfold tailU
    repeat' (refine cs (fun _ => ?_) (fun _ => ?_))
    all_goals refine congrArg (fun z => some ([AV.one (AC.int .i64 z)], ([] : List Block))) ?_
    all_goals simp only [beq_iff_eq, beq_eq_false_iff_ne, decide_eq_true_eq, decide_eq_false_iff_not, ne_eq] at *
    all_goals (unfold vUpd; (repeat' split) <;> first | rfl | omega)
  · refine ⟨1, ?_⟩
    rw [e128]
    repeat' (refine cs (fun _ => ?_) (fun _ => ?_))
    all_goals simp only [beq_iff_eq, beq_eq_false_iff_ne, decide_eq_true_eq, decide_eq_false_iff_not, ne_eq] at *
    all_goals first | (exfalso; omega) | (refine congrArg (fun z => some ([AV.one (AC.int .i64 z)], ([] : List Block))) ?_; unfold vUpd; (repeat' split) <;> first | rfl | omega)

theorem l73 (c q t : Int) (l : List (List Cell)) (hl : l.length ≤ 4) : ∀ (d i : Nat), i + d = l.length →
    ∃ m, goF E (callOf L128) F73 0 m P73_0 (M73_0 i c q t l) = some ([.one (.int .i64 (if vEffs (l.drop i) ≠ 0 then vEffs (l.drop i) else tailU t l))], [])
  | 0, i, hi => by
    refine ⟨1, ?_⟩
    rw [e73_0]
    have : l.drop i = [] := List.drop_eq_nil_of_le (by omega)
    rw [this, vEffs, if_neg (by simp)]
    refine cf (decide_eq_false (by omega)) (ct (decide_eq_true (by omega)) ?_)
    unfold tailU
    rw [decide_eq_true (show l.length < 9223372036854775808 by omega)]
    cases comm l
    all_goals repeat' (refine cs (fun _ => ?_) (fun _ => ?_))
    all_goals simp only [bne_iff_ne, bne_eq_false_iff_eq, decide_eq_true_eq, decide_eq_false_iff_not, Bool.not_true, Bool.not_false, Bool.true_eq_false, Bool.false_eq_true, false_and, true_and, or_false, false_or] at *
    all_goals refine congrArg (fun z => some ([AV.one (AC.int .i64 z)], ([] : List Block))) ?_
    all_goals ((repeat' split) <;> omega)
  | d + 1, i, hi => by
    obtain ⟨m, hm⟩ := l73 c q t l hl d (i + 1) (by omega)
    refine ⟨m + 1, ?_⟩
    rw [e73_0, drop_cons l i (by omega), vEffs, Int.toNat_natCast, nat_wrap (n := l.length) (by omega) (by omega), hm]
    refine ct (decide_eq_true (by omega)) (ct (inB_nat' (by omega)) ?_)
    show cond (vEffR (Abs.rowAt l i) != 0) (some ([AV.one (AC.int .i64 (vEffR (Abs.rowAt l i)))], ([] : List Block))) _ = _
    by_cases h0 : vEffR (Abs.rowAt l i) = 0
    · rw [if_neg (show ¬ vEffR (Abs.rowAt l i) ≠ 0 by simpa using h0)]
      exact cf (by simpa using h0) rfl
    · simp only [if_pos h0]
      exact ct (by simpa using h0) (by simp [h0])

theorem k73 (c q t : Int) (l : List (List Cell)) : ∃ m, runF E (callOf L128) m 73 [.agg [.int .i64 c, .int .i64 q, .int .i64 t, .sl false 136 l]] [] = some ([.one (.int .i64 (vUpd c q t l))], []) := by
  by_cases hl : l.length ≤ 4
  · obtain ⟨m, hm⟩ := l73 c q t l hl l.length 0 (by omega)
    refine ⟨m + 1, ?_⟩
    rw [e73, show (0 : Int) = ((0 : Nat) : Int) from rfl, hm, List.drop_zero]
    unfold tailU
    simp only [isClient]
    repeat' (refine cs (fun _ => ?_) (fun _ => ?_))
    all_goals refine congrArg (fun z => some ([AV.one (AC.int .i64 z)], ([] : List Block))) ?_
    all_goals simp only [Bool.not_eq_true', Bool.not_eq_false', Bool.and_eq_true, Bool.and_eq_false_iff, beq_iff_eq, beq_eq_false_iff_ne, decide_eq_true_eq, decide_eq_false_iff_not, ne_eq] at *
    all_goals (unfold vUpd; (repeat' split) <;> first | rfl | omega)
  · refine ⟨1, ?_⟩
    rw [e73]
    simp only [isClient]
    repeat' (refine cs (fun _ => ?_) (fun _ => ?_))
    all_goals simp only [Bool.not_eq_true', Bool.not_eq_false', Bool.and_eq_true, Bool.and_eq_false_iff, beq_iff_eq, beq_eq_false_iff_ne, decide_eq_true_eq, decide_eq_false_iff_not, ne_eq] at *
    all_goals first | (exfalso; omega) | (refine congrArg (fun z => some ([AV.one (AC.int .i64 z)], ([] : List Block))) ?_; unfold vUpd; (repeat' split) <;> first | rfl | omega)

theorem k129 (a n t : Int) (c : List (List Cell)) (b k u : Int) (d : List (List Cell)) : runF E (callOf L73) 1 129 [.agg [.int .i64 a, .int .i64 n, .int .i64 t, .sl false 136 c], .agg [.int .i64 b, .int .i64 k, .int .i64 u, .sl false 136 d]] [] = some ([.one (.int .i64 (cmpU a n b k))], []) := by
  rw [e129]
  refine ct (by simp) ?_
  refine congrArg (fun z => some ([AV.one (AC.int .i64 z)], ([] : List Block))) ?_
  simp only [orI1, nr, cellAt, Cell.toInt, cmpI, cmpU]
  (repeat' split) <;> omega

theorem k74 (a n t : Int) (c : List (List Cell)) (b k u : Int) (d : List (List Cell)) : runF E (callOf L129) 1 74 [.agg [.int .i64 a, .int .i64 n, .int .i64 t, .sl false 136 c], .agg [.int .i64 b, .int .i64 k, .int .i64 u, .sl false 136 d]] [] = some ([.one (.int .i64 (cmpU a n b k))], []) := by
  rw [e74]
  repeat' (refine cs (fun _ => ?_) (fun _ => ?_))
  all_goals refine congrArg (fun z => some ([AV.one (AC.int .i64 z)], ([] : List Block))) ?_
  all_goals simp only [beq_iff_eq, beq_eq_false_iff_ne, decide_eq_true_eq, decide_eq_false_iff_not, ne_eq] at *
  all_goals (unfold cmpU; (repeat' split) <;> omega)

theorem l92 (c d : List (List Cell)) (a n t b k u : Int) (hc : c.length < 9223372036854775808) (hd : c.length = d.length) : ∀ (e i : Nat), i + e = c.length →
    ∃ m, goF E (callOf L74) F92 0 m P92_0 (M92_0 i a n t c b k u d) = some ([.one (.bool (eqEffF (c.drop i) (d.drop i)))], [])
  | 0, i, hi => by
    refine ⟨1, ?_⟩
    rw [e92_0]
    have : c.drop i = [] := List.drop_eq_nil_of_le (by omega)
    rw [this, eqEffF]
    exact cf (decide_eq_false (by omega)) rfl
  | e + 1, i, hi => by
    obtain ⟨m, hm⟩ := l92 c d a n t b k u hc hd e (i + 1) (by omega)
    refine ⟨m + 1, ?_⟩
    rw [e92_0]
    refine ct (decide_eq_true (by omega)) (ct (inB_nat' (by omega)) (ct (inB_nat' (by omega)) ?_))
    rw [drop_cons c i (by omega), eqEffF, Int.toNat_natCast, nat_wrap (n := c.length) (by omega) hc, hm, rowAt_drop, List.drop_drop, Nat.add_zero]
    show cond (!(eqEffR (Abs.rowAt c i) (Abs.rowAt d i))) _ _ = _
    generalize eqEffR (Abs.rowAt c i) (Abs.rowAt d i) = b1
    cases b1 <;> rfl

theorem k92 (a n t : Int) (c : List (List Cell)) (b k u : Int) (d : List (List Cell)) (hc : c.length < 9223372036854775808) : ∃ m, runF E (callOf L74) m 92 [.agg [.int .i64 a, .int .i64 n, .int .i64 t, .sl false 136 c], .agg [.int .i64 b, .int .i64 k, .int .i64 u, .sl false 136 d]] [] = some ([.one (.bool (eqU a n t c b k u d))], []) := by
  unfold eqU eqEffs
  by_cases hd : c.length = d.length
  · obtain ⟨m, hm⟩ := l92 c d a n t b k u hc hd c.length 0 (by omega)
    refine ⟨m + 1, ?_⟩
    rw [e92, show (0 : Int) = ((0 : Nat) : Int) from rfl, hm, decide_eq_true hd, List.drop_zero, List.drop_zero]
    unfold bne
    rw [show ((c.length : Int) == (d.length : Int)) = true from beq_iff_eq.2 (by omega)]
    generalize (a == b) = b1
    generalize (n == k) = b2
    generalize (t == u) = b3
    cases b1 <;> cases b2 <;> cases b3 <;> rfl
  · refine ⟨1, ?_⟩
    rw [e92, decide_eq_false hd]
    unfold bne
    rw [show ((c.length : Int) == (d.length : Int)) = false from beq_eq_false_iff_ne.2 (by omega)]
    generalize (a == b) = b1
    generalize (n == k) = b2
    generalize (t == u) = b3
    cases b1 <;> cases b2 <;> cases b3 <;> rfl

theorem udecF_zero : ∀ (k : Nat) (i acc : Int) (l : List (List Cell)), (udecF k i acc l).2.2 ≠ 0 → (udecF k i acc l).1 = 0 ∧ (udecF k i acc l).2.1 = 0
  | 0, _, _, _, _ => by simp [udecF]
  | k + 1, _, _, [], _ => by simp [udecF]
  | k + 1, i, acc, r :: rs, h => by
    unfold udecF at h ⊢
    split
    · simp
    · rename_i h1
      rw [if_neg h1] at h
      split
      · rename_i h2
        rw [if_pos h2] at h
        split
        · simp
        · rename_i h3
          rw [if_neg h3] at h
          simp at h
      · rename_i h2
        rw [if_neg h2] at h
        exact udecF_zero k _ _ rs h

def rdI (r : Int × Int × Int) : List AV × List Block := ([.one (.int .i64 r.1), .one (.int .i64 r.2.1), .one (.int .i64 r.2.2)], [])

def rdS (r : List UInt8 × Int × Int) : List AV × List Block := ([.one (.str r.1), .one (.int .i64 r.2.1), .one (.int .i64 r.2.2)], [])

theorem k155 (x : List (List Cell)) (hx : okRd x = true) : runF E (callOf L92) 1 155 [.one (.sl false 5 x)] [] = some (rdI (idec x)) := by
  rw [e155]
  refine ct hx ?_
  unfold idec
  by_cases he : (udec x).2.2 = 0
  · rw [if_neg (by simpa using he)]
    refine cf (by simpa using he) ?_
    rw [unzigxor (udec_bound (okRd_of hx).1 he).2.2 (udec_lt (okRd_of hx).1 he)]
    rfl
  · rw [if_pos he]
    exact ct (by simpa using he) rfl

theorem k150 (x : List (List Cell)) (hx : okRd x = true) : runF E (callOf L155) 1 150 [.one (.sl false 5 x)] [] = some (rdI (idec x)) := by
  rw [e150]
  refine ct hx ?_
  unfold idec
  by_cases he : (udec x).2.2 = 0
  · rw [if_neg (by simpa using he)]
    refine cf (by simpa using he) ?_
    have h0 := (udec_bound (okRd_of hx).1 he).2.2
    have h1 := udec_lt (okRd_of hx).1 he
    unfold unzig
    rw [Int.tmod_eq_emod_of_nonneg h0, Int.tdiv_eq_ediv_of_nonneg h0, wrapu (by omega) (by omega), wrap64 (n := (udec x).1 / 2) (by omega) (by omega)]
    by_cases h2 : (udec x).1 % 2 = 0
    · rw [if_pos h2]
      exact ct (by simpa using h2) rfl
    · rw [if_neg h2]
      refine cf (by simpa using h2) ?_
      rw [wrap64 (n := 0 - (udec x).1 / 2) (by omega) (by omega), wrap64 (by omega) (by omega), Int.zero_sub]
      rfl
  · rw [if_pos he]
    exact ct (by simpa using he) rfl

theorem k154 (x : List (List Cell)) (hx : okRd x = true) : runF E (callOf L150) 1 154 [.one (.sl false 5 x)] [] = some (rdS (sdec x)) := by
  rw [e154]
  refine ct hx ?_
  unfold sdec
  have hl := (okRd_of hx).2
  by_cases he : (udec x).2.2 = 0
  · rw [if_neg (by simpa using he)]
    refine cf (by simpa using he) ?_
    have hb := udec_bound (okRd_of hx).1 he
    rw [wrap64 (n := (x.length : Int) - (udec x).2.1) (by omega) (by omega), wrapu (by omega) (by omega)]
    by_cases hv : (x.length : Int) - (udec x).2.1 < (udec x).1
    · rw [if_pos hv]
      exact ct (decide_eq_true hv) rfl
    · rw [if_neg hv, wrap64 (n := (udec x).1) (by omega) (by omega), wrap64 (n := (udec x).2.1 + (udec x).1) (by omega) (by omega)]
      refine cf (decide_eq_false hv) (ct (inB_of (by omega) (by omega)) (ct (inB_of (by omega) (by omega)) ?_))
      unfold subL
      rw [takeN_eq, dropN_eq, List.drop_take, show ((udec x).2.1 + (udec x).1).toNat - (udec x).2.1.toNat = (udec x).1.toNat by omega]
      rfl
  · rw [if_pos he]
    exact ct (by simpa using he) rfl

theorem k149 (x : List (List Cell)) (hx : okRd x = true) : runF E (callOf L154) 1 149 [.one (.sl false 5 x)] [] = some (rdS (sdec x)) := by
  rw [e149]
  refine ct hx ?_
  unfold sdec
  have hl := (okRd_of hx).2
  by_cases he : (udec x).2.2 = 0
  · rw [if_neg (by simpa using he)]
    refine cf (by simpa using he) ?_
    have hb := udec_bound (okRd_of hx).1 he
    rw [wrap64 (n := (x.length : Int) - (udec x).2.1) (by omega) (by omega), wrapu (by omega) (by omega)]
    by_cases hv : (x.length : Int) - (udec x).2.1 < (udec x).1
    · rw [if_pos hv]
      exact ct (decide_eq_true hv) rfl
    · rw [if_neg hv, wrap64 (n := (udec x).1) (by omega) (by omega), wrap64 (n := (udec x).2.1 + (udec x).1) (by omega) (by omega)]
      refine cf (decide_eq_false hv) (ct (inB_of (by omega) (by omega)) (ct (inB_of (by omega) (by omega)) ?_))
      unfold subL
      rw [takeN_eq, dropN_eq, List.drop_take, show ((udec x).2.1 + (udec x).1).toNat - (udec x).2.1.toNat = (udec x).1.toNat by omega]
      rfl
  · rw [if_pos he]
    exact ct (by simpa using he) rfl

theorem sdec_bound {x : List (List Cell)} (hx : okRd x = true) : 0 ≤ (sdec x).2.1 ∧ (sdec x).2.1 ≤ x.length := by
  unfold sdec
  split
  · simp
  · rename_i he
    have hb := udec_bound (okRd_of hx).1 (by simpa using he)
    split
    · simp
    · simp only
      omega

theorem idec_bound {x : List (List Cell)} (hx : okRd x = true) : 0 ≤ (idec x).2.1 ∧ (idec x).2.1 ≤ x.length := by
  unfold idec
  split
  · simp
  · rename_i he
    have hb := udec_bound (okRd_of hx).1 (by simpa using he)
    simp only
    omega

theorem okTake_mk {o n : Int} (h0 : 0 ≤ o) (h1 : 0 ≤ n) (h2 : o + n ≤ 4611686018427387904) : okTake o n = true := by
  unfold okTake
  simp [h0, h1, h2]

theorem k146 (n z : Int) (b : List (List Cell)) (o e : Int) (h : okTake o n = true) : runF E (callOf L149) 1 146 [.one (.ptr 0 0), .one (.int .i64 n), .one (.int .i64 z)] [.var [.sl false 5 b, .int .i64 o, .int .i64 e]] =
    some ([], [.var [.sl false 5 b, .int .i64 (o + n), .int .i64 z]]) := by
  unfold okTake at h
  simp only [Bool.and_eq_true, decide_eq_true_eq] at h
  rw [e146, wrap64 (by omega) (by omega)]

theorem rstep_at {α : Type} {z : α} {d : List (List Cell) → α × Int × Int} (hd : ∀ y, okRd y = true → 0 ≤ (d y).2.1 ∧ (d y).2.1 ≤ y.length) {b : List (List Cell)} {o e : Int} (h : okAt b o = true) : okAt b (rstep z d b o e).2.1 = true := by
  obtain ⟨h1, h2, h3⟩ := okAt_of h
  unfold rstep
  split
  · exact h
  · have := hd _ (okRd_drop h1 o.toNat)
    rw [List.length_drop] at this
    exact okAt_mk h1 (by simp only; omega) (by simp only; omega)

theorem rtext_at {b : List (List Cell)} {o e : Int} (h : okAt b o = true) : okAt b (rtext b o e).2.1 = true := rstep_at (fun _ hy => sdec_bound hy) h

theorem rint_at {b : List (List Cell)} {o e : Int} (h : okAt b o = true) : okAt b (rint b o e).2.1 = true := rstep_at (fun _ hy => idec_bound hy) h

theorem k135 (b : List (List Cell)) (o e : Int) (h : okAt b o = true) : runF E (callOf L146) 1 135 [.one (.ptr 0 0)] [.var [.sl false 5 b, .int .i64 o, .int .i64 e]] =
    some ([.one (.int .i64 (rnum b o e).1)], [.var [.sl false 5 b, .int .i64 (rnum b o e).2.1, .int .i64 (rnum b o e).2.2]]) := by
  obtain ⟨h1, h2, h3⟩ := okAt_of h
  have h4 := okRd_drop h1 o.toNat
  rw [e135]
  unfold rnum
  by_cases he : e = 0
  · subst he
    rw [if_neg (by simp)]
    refine cf (by simp) (ct (inB_of h2 (by omega)) ?_)
    rw [dropN_eq]
    refine ct h4 ?_
    have hl := (okRd_of h1).2
    by_cases hd : (udec (b.drop o.toNat)).2.2 = 0
    · refine ct (by simpa using hd) ?_
      have hb := udec_bound (okRd_of h4).1 hd
      rw [List.length_drop] at hb
      by_cases hbig : 2147483647 < (udec (b.drop o.toNat)).1
      · refine ct (decide_eq_true hbig) (ct (okTake_mk h2 (by omega) (by omega)) ?_)
        have e : rnum2 (b.drop o.toNat) = (0, 0, 9) := by
          unfold rnum2
          rw [if_neg (by simpa using hd), if_pos hbig]
        rw [e, Int.add_zero]
        rfl
      · refine cf (decide_eq_false hbig) (ct (okTake_mk h2 (by omega) (by omega)) ?_)
        have e : rnum2 (b.drop o.toNat) = udec (b.drop o.toNat) := by
          unfold rnum2
          rw [if_neg (by simpa using hd), if_neg hbig]
        rw [e, if_neg (by simpa using hd), wrap64 (by omega) (by omega), hd]
    · have hz : (udec (b.drop o.toNat)).1 = 0 ∧ (udec (b.drop o.toNat)).2.1 = 0 := udecF_zero 10 0 0 _ hd
      refine cf (by simpa using hd) (ct (okTake_mk h2 (by omega) (by omega)) ?_)
      have e : rnum2 (b.drop o.toNat) = (0, 0, (udec (b.drop o.toNat)).2.2) := by
        unfold rnum2
        rw [if_pos hd]
      rw [e, if_pos (by simpa using hd), hz.1, hz.2, Int.add_zero]
      rfl
  · rw [if_pos he]
    exact ct (by simpa using he) rfl

theorem k147 (b : List (List Cell)) (o e : Int) (h : okAt b o = true) : runF E (callOf L135) 1 147 [.one (.ptr 0 0)] [.var [.sl false 5 b, .int .i64 o, .int .i64 e]] =
    some ([.one (.str (rtext b o e).1)], [.var [.sl false 5 b, .int .i64 (rtext b o e).2.1, .int .i64 (rtext b o e).2.2]]) := by
  obtain ⟨h1, h2, h3⟩ := okAt_of h
  have h4 := okRd_drop h1 o.toNat
  rw [e147, dropN_eq]
  unfold rtext rstep
  by_cases he : e = 0
  · subst he
    rw [if_neg (by simp)]
    have := sdec_bound h4
    rw [List.length_drop] at this
    have hl := (okRd_of h1).2
    exact cf (by simp) (ct (inB_of h2 (by omega)) (ct h4 (ct (okTake_mk h2 (by omega) (by omega)) rfl)))
  · rw [if_pos he]
    exact ct (by simpa using he) rfl

theorem k148 (b : List (List Cell)) (o e : Int) (h : okAt b o = true) : runF E (callOf L147) 1 148 [.one (.ptr 0 0)] [.var [.sl false 5 b, .int .i64 o, .int .i64 e]] =
    some ([.one (.int .i64 (rint b o e).1)], [.var [.sl false 5 b, .int .i64 (rint b o e).2.1, .int .i64 (rint b o e).2.2]]) := by
  obtain ⟨h1, h2, h3⟩ := okAt_of h
  have h4 := okRd_drop h1 o.toNat
  rw [e148, dropN_eq]
  unfold rint rstep
  by_cases he : e = 0
  · subst he
    rw [if_neg (by simp)]
    have := idec_bound h4
    rw [List.length_drop] at this
    have hl := (okRd_of h1).2
    exact cf (by simp) (ct (inB_of h2 (by omega)) (ct h4 (ct (okTake_mk h2 (by omega) (by omega)) rfl)))
  · rw [if_pos he]
    exact ct (by simpa using he) rfl

theorem k136 (b : List (List Cell)) (o e : Int) (h : okAt b o = true) : runF E (callOf L148) 1 136 [.one (.ptr 0 0)] [.var [.sl false 5 b, .int .i64 o, .int .i64 e]] =
    some ([.agg [.int .i64 (reff b o e).1.1, .str (reff b o e).1.2.1, .str (reff b o e).1.2.2.1, .int .i64 (reff b o e).1.2.2.2.1, .str (reff b o e).1.2.2.2.2]], [.var [.sl false 5 b, .int .i64 (reff b o e).2.1, .int .i64 (reff b o e).2.2]]) := by
  rw [e136]
  have a1 := rnum_at (e := e) h
  have a2 := rtext_at (e := (rnum b o e).2.2) a1
  have a3 := rtext_at (e := (rtext b (rnum b o e).2.1 (rnum b o e).2.2).2.2) a2
  exact ct h (ct a1 (ct a2 (ct a3 (ct (rint_at a3) rfl))))

theorem cmpU_cases (a n b m : Int) : (cmpU a n b m = -1 ∧ (a < b ∨ (a = b ∧ n < m))) ∨ (cmpU a n b m = 0 ∧ a = b ∧ n = m) ∨ (cmpU a n b m = 1 ∧ (b < a ∨ (a = b ∧ m < n))) := by
  unfold cmpU
  (repeat' split) <;> omega

theorem eqEffF_refl : ∀ c : List (List Cell), eqEffF c c = true
  | [] => rfl
  | r :: c => by
    have : eqEffR r r = true := by simp [eqEffR]
    rw [eqEffF]
    show (eqEffR r r && eqEffF c c) = true
    rw [this, eqEffF_refl c]
    rfl

theorem eqU_refl (a n t : Int) (c : List (List Cell)) : eqU a n t c a n t c = true := by
  simp [eqU, eqEffs, eqEffF_refl]

theorem rnum2_n {x : List (List Cell)} (hx : okRd x = true) : 0 ≤ (rnum2 x).2.1 ∧ (rnum2 x).2.1 ≤ x.length := by
  by_cases h : (rnum2 x).2.2 = 0
  · have := rnum2_bound (okRd_of hx).1 h
    omega
  · unfold rnum2 at h ⊢
    split
    · simp
    · split
      · simp
      · rename_i h1 h2
        rw [if_neg h1, if_neg h2] at h
        exact absurd h h1

theorem rstep_ok {α : Type} {z : α} {d : List (List Cell) → α × Int × Int} {b : List (List Cell)} {o : Int} (h : (d (b.drop o.toNat)).2.2 = 0) : rstep z d b o 0 = ((d (b.drop o.toNat)).1, o + (d (b.drop o.toNat)).2.1, 0) := by
  unfold rstep
  rw [if_neg (by simp), h]

theorem rstep_e {α : Type} {z : α} {d : List (List Cell) → α × Int × Int} {b : List (List Cell)} {o e : Int} (h : e ≠ 0) : rstep z d b o e = (z, o, e) := by
  unfold rstep
  rw [if_pos h]

theorem rstep_err {α : Type} {z : α} {d : List (List Cell) → α × Int × Int} {b : List (List Cell)} {o : Int} : (rstep z d b o 0).2.2 = (d (b.drop o.toNat)).2.2 := by
  unfold rstep
  rw [if_neg (by simp)]

theorem reff_deff {b : List (List Cell)} {o : Int} (h : okAt b o = true) :
    (deff (b.drop o.toNat)).2.2 = (reff b o 0).2.2 ∧ ((deff (b.drop o.toNat)).2.2 = 0 → reff b o 0 = ((deff (b.drop o.toNat)).1, o + (deff (b.drop o.toNat)).2.1, 0)) := by
  obtain ⟨hb, h0, h1⟩ := okAt_of h
  have hy := okRd_drop hb o.toNat
  have hd : ∀ n : Int, 0 ≤ n → (b.drop o.toNat).drop n.toNat = b.drop (o + n).toNat := by
    intro n hn
    rw [List.drop_drop]
    congr 1
    omega
  generalize b.drop o.toNat = y at hy hd
  have hr1 : rnum b o 0 = if (rnum2 y).2.2 ≠ 0 then (0, o, (rnum2 y).2.2) else ((rnum2 y).1, o + (rnum2 y).2.1, 0) := by
    have := hd 0 (by omega)
    simp only [Int.toNat_zero, List.drop_zero, Int.add_zero] at this
    unfold rnum
    rw [if_neg (by simp), ← this]
  have n1 := rnum2_n hy
  unfold deff reff
  simp only
  generalize rnum2 y = q1 at *
  have n2 := sdec_bound (okRd_drop hy q1.2.1.toNat)
  rw [List.length_drop] at n2
  have d1 := hd q1.2.1 n1.1
  by_cases e1 : q1.2.2 = 0
  rotate_left
  · have r1 : rnum b o 0 = (0, o, q1.2.2) := by rw [hr1, if_pos e1]
    rw [if_pos e1, r1]
    unfold rtext rint
    simp only [rstep_e e1]
    exact ⟨by trivial, fun h => absurd h e1⟩
  have r1 : rnum b o 0 = (q1.1, o + q1.2.1, 0) := by rw [hr1, if_neg (by simpa using e1)]
  rw [if_neg (by simpa using e1), r1]
  simp only
  by_cases e2 : (sdec (y.drop q1.2.1.toNat)).2.2 = 0
  rotate_left
  · rw [if_pos e2]
    have r2 : (rtext b (o + q1.2.1) 0).2.2 = (sdec (y.drop q1.2.1.toNat)).2.2 := by
      unfold rtext
      rw [rstep_err, d1]
    have r2' : (rtext b (o + q1.2.1) 0).2.2 ≠ 0 := by rw [r2]; exact e2
    generalize rtext b (o + q1.2.1) 0 = p2 at *
    unfold rtext rint
    simp only [rstep_e r2']
    exact ⟨r2.symm, fun h => absurd h e2⟩
  rw [if_neg (by simpa using e2)]
  have r2 : rtext b (o + q1.2.1) 0 = ((sdec (y.drop q1.2.1.toNat)).1, o + q1.2.1 + (sdec (y.drop q1.2.1.toNat)).2.1, 0) := by
    unfold rtext
    rw [rstep_ok (by rw [← d1]; exact e2), d1]
  rw [r2]
  simp only
  generalize sdec (y.drop q1.2.1.toNat) = q2 at *
  have n3 := sdec_bound (okRd_drop hy (q1.2.1 + q2.2.1).toNat)
  rw [List.length_drop] at n3
  have d2 := hd (q1.2.1 + q2.2.1) (by omega)
  rw [← Int.add_assoc] at d2
  by_cases e3 : (sdec (y.drop (q1.2.1 + q2.2.1).toNat)).2.2 = 0
  rotate_left
  · rw [if_pos e3]
    have r3 : (rtext b (o + q1.2.1 + q2.2.1) 0).2.2 = (sdec (y.drop (q1.2.1 + q2.2.1).toNat)).2.2 := by
      unfold rtext
      rw [rstep_err, d2]
    have r3' : (rtext b (o + q1.2.1 + q2.2.1) 0).2.2 ≠ 0 := by rw [r3]; exact e3
    generalize rtext b (o + q1.2.1 + q2.2.1) 0 = p3 at *
    unfold rtext rint
    simp only [rstep_e r3']
    exact ⟨r3.symm, fun h => absurd h e3⟩
  rw [if_neg (by simpa using e3)]
  have r3 : rtext b (o + q1.2.1 + q2.2.1) 0 = ((sdec (y.drop (q1.2.1 + q2.2.1).toNat)).1, o + q1.2.1 + q2.2.1 + (sdec (y.drop (q1.2.1 + q2.2.1).toNat)).2.1, 0) := by
    unfold rtext
    rw [rstep_ok (by rw [← d2]; exact e3), d2]
  rw [r3]
  simp only
  generalize sdec (y.drop (q1.2.1 + q2.2.1).toNat) = q3 at *
  have n4 := idec_bound (okRd_drop hy (q1.2.1 + q2.2.1 + q3.2.1).toNat)
  rw [List.length_drop] at n4
  have d3 := hd (q1.2.1 + q2.2.1 + q3.2.1) (by omega)
  rw [← Int.add_assoc, ← Int.add_assoc] at d3
  by_cases e4 : (idec (y.drop (q1.2.1 + q2.2.1 + q3.2.1).toNat)).2.2 = 0
  rotate_left
  · rw [if_pos e4]
    have r4 : (rint b (o + q1.2.1 + q2.2.1 + q3.2.1) 0).2.2 = (idec (y.drop (q1.2.1 + q2.2.1 + q3.2.1).toNat)).2.2 := by
      unfold rint
      rw [rstep_err, d3]
    have r4' : (rint b (o + q1.2.1 + q2.2.1 + q3.2.1) 0).2.2 ≠ 0 := by rw [r4]; exact e4
    generalize rint b (o + q1.2.1 + q2.2.1 + q3.2.1) 0 = p4 at *
    unfold rtext
    simp only [rstep_e r4']
    exact ⟨r4.symm, fun h => absurd h e4⟩
  rw [if_neg (by simpa using e4)]
  have r4 : rint b (o + q1.2.1 + q2.2.1 + q3.2.1) 0 = ((idec (y.drop (q1.2.1 + q2.2.1 + q3.2.1).toNat)).1, o + q1.2.1 + q2.2.1 + q3.2.1 + (idec (y.drop (q1.2.1 + q2.2.1 + q3.2.1).toNat)).2.1, 0) := by
    unfold rint
    rw [rstep_ok (by rw [← d3]; exact e4), d3]
  rw [r4]
  simp only
  generalize idec (y.drop (q1.2.1 + q2.2.1 + q3.2.1).toNat) = q4 at *
  have d4 := hd (q1.2.1 + q2.2.1 + q3.2.1 + q4.2.1) (by omega)
  rw [← Int.add_assoc, ← Int.add_assoc, ← Int.add_assoc] at d4
  by_cases e5 : (sdec (y.drop (q1.2.1 + q2.2.1 + q3.2.1 + q4.2.1).toNat)).2.2 = 0
  rotate_left
  · rw [if_pos e5]
    have r5 : (rtext b (o + q1.2.1 + q2.2.1 + q3.2.1 + q4.2.1) 0).2.2 = (sdec (y.drop (q1.2.1 + q2.2.1 + q3.2.1 + q4.2.1).toNat)).2.2 := by
      unfold rtext
      rw [rstep_err, d4]
    exact ⟨r5.symm, fun h => absurd h e5⟩
  rw [if_neg (by simpa using e5)]
  have r5 : rtext b (o + q1.2.1 + q2.2.1 + q3.2.1 + q4.2.1) 0 = ((sdec (y.drop (q1.2.1 + q2.2.1 + q3.2.1 + q4.2.1).toNat)).1, o + q1.2.1 + q2.2.1 + q3.2.1 + q4.2.1 + (sdec (y.drop (q1.2.1 + q2.2.1 + q3.2.1 + q4.2.1).toNat)).2.1, 0) := by
    unfold rtext
    rw [rstep_ok (by rw [← d4]; exact e5), d4]
  rw [r5]
  refine ⟨rfl, fun _ => ?_⟩
  simp only [Prod.mk.injEq, true_and, and_true]
  omega

theorem deff_bound {x : List (List Cell)} (hx : okRd x = true) : 0 ≤ (deff x).2.1 ∧ (deff x).2.1 ≤ x.length ∧ ((deff x).2.2 = 0 → 0 < (deff x).2.1) := by
  have n1 := rnum2_n hx
  have hp : (rnum2 x).2.2 = 0 → 0 < (rnum2 x).2.1 := fun h => (rnum2_bound (okRd_of hx).1 h).1
  unfold deff
  simp only
  generalize rnum2 x = q1 at *
  have n2 := sdec_bound (okRd_drop hx q1.2.1.toNat)
  rw [List.length_drop] at n2
  generalize sdec (x.drop q1.2.1.toNat) = q2 at *
  have n3 := sdec_bound (okRd_drop hx (q1.2.1 + q2.2.1).toNat)
  rw [List.length_drop] at n3
  generalize sdec (x.drop (q1.2.1 + q2.2.1).toNat) = q3 at *
  have n4 := idec_bound (okRd_drop hx (q1.2.1 + q2.2.1 + q3.2.1).toNat)
  rw [List.length_drop] at n4
  generalize idec (x.drop (q1.2.1 + q2.2.1 + q3.2.1).toNat) = q4 at *
  have n5 := sdec_bound (okRd_drop hx (q1.2.1 + q2.2.1 + q3.2.1 + q4.2.1).toNat)
  rw [List.length_drop] at n5
  generalize sdec (x.drop (q1.2.1 + q2.2.1 + q3.2.1 + q4.2.1).toNat) = q5 at *
  split
  · rename_i h; simp only; refine ⟨by omega, by omega, fun h2 => absurd h2 h⟩
  · rename_i h1
    have := hp (by simpa using h1)
    split
    · rename_i h; simp only; exact ⟨by omega, by omega, fun h2 => absurd h2 h⟩
    · split
      · rename_i h; simp only; exact ⟨by omega, by omega, fun h2 => absurd h2 h⟩
      · split
        · rename_i h; simp only; exact ⟨by omega, by omega, fun h2 => absurd h2 h⟩
        · split
          · rename_i h; simp only; exact ⟨by omega, by omega, fun h2 => absurd h2 h⟩
          · simp only; exact ⟨by omega, by omega, fun _ => by omega⟩

def rdE (r : (Int × List UInt8 × List UInt8 × Int × List UInt8) × Int × Int) : List AV × List Block :=
  ([.agg [.int .i64 r.1.1, .str r.1.2.1, .str r.1.2.2.1, .int .i64 r.1.2.2.2.1, .str r.1.2.2.2.2], .one (.int .i64 r.2.1), .one (.int .i64 r.2.2)], [])

theorem k137 (x : List (List Cell)) (hx : okRd x = true) : runF E (callOf L118) 1 137 [.one (.sl false 5 x)] [] = some (rdE (deff x)) := by
  have n1 := rnum2_n hx
  have hl := (okRd_of hx).2
  rw [e137]
  simp only [dropN_eq]
  unfold deff
  simp only
  generalize rnum2 x = q1 at *
  have o2 := okRd_drop hx q1.2.1.toNat
  have n2 := sdec_bound o2
  rw [List.length_drop] at n2
  generalize sdec (x.drop q1.2.1.toNat) = q2 at *
  rw [wrap64 (n := q1.2.1 + q2.2.1) (by omega) (by omega)]
  have o3 := okRd_drop hx (q1.2.1 + q2.2.1).toNat
  have n3 := sdec_bound o3
  rw [List.length_drop] at n3
  generalize sdec (x.drop (q1.2.1 + q2.2.1).toNat) = q3 at *
  rw [wrap64 (n := q1.2.1 + q2.2.1 + q3.2.1) (by omega) (by omega)]
  have o4 := okRd_drop hx (q1.2.1 + q2.2.1 + q3.2.1).toNat
  have n4 := idec_bound o4
  rw [List.length_drop] at n4
  generalize idec (x.drop (q1.2.1 + q2.2.1 + q3.2.1).toNat) = q4 at *
  rw [wrap64 (n := q1.2.1 + q2.2.1 + q3.2.1 + q4.2.1) (by omega) (by omega)]
  have o5 := okRd_drop hx (q1.2.1 + q2.2.1 + q3.2.1 + q4.2.1).toNat
  have n5 := sdec_bound o5
  rw [List.length_drop] at n5
  generalize sdec (x.drop (q1.2.1 + q2.2.1 + q3.2.1 + q4.2.1).toNat) = q5 at *
  rw [wrap64 (n := q1.2.1 + q2.2.1 + q3.2.1 + q4.2.1 + q5.2.1) (by omega) (by omega)]
  refine ct hx ?_
  by_cases z1 : q1.2.2 = 0
  rotate_left
  · rw [if_pos z1]; exact ct (by simpa using z1) rfl
  rw [if_neg (by simpa using z1)]
  refine cf (by simpa using z1) (ct (inB_of (by omega) (by omega)) (ct o2 ?_))
  by_cases z2 : q2.2.2 = 0
  rotate_left
  · rw [if_pos z2]; exact ct (by simpa using z2) rfl
  rw [if_neg (by simpa using z2)]
  refine cf (by simpa using z2) (ct (inB_of (by omega) (by omega)) (ct o3 ?_))
  by_cases z3 : q3.2.2 = 0
  rotate_left
  · rw [if_pos z3]; exact ct (by simpa using z3) rfl
  rw [if_neg (by simpa using z3)]
  refine cf (by simpa using z3) (ct (inB_of (by omega) (by omega)) (ct o4 ?_))
  by_cases z4 : q4.2.2 = 0
  rotate_left
  · rw [if_pos z4]; exact ct (by simpa using z4) rfl
  rw [if_neg (by simpa using z4)]
  refine cf (by simpa using z4) (ct (inB_of (by omega) (by omega)) (ct o5 ?_))
  by_cases z5 : q5.2.2 = 0
  rotate_left
  · rw [if_pos z5]; exact ct (by simpa using z5) rfl
  rw [if_neg (by simpa using z5)]
  exact cf (by simpa using z5) rfl

theorem decEs_bound (x : List (List Cell)) (hx : okRd x = true) : ∀ (k : Nat) (a : Int) (acc : List (List Cell)), 0 ≤ a → a ≤ x.length → (decEs x k a acc).2.2 = 0 →
    a ≤ (decEs x k a acc).2.1 ∧ (decEs x k a acc).2.1 ≤ x.length ∧ (decEs x k a acc).1.length = acc.length + k
  | 0, a, acc, ha, hl, _ => ⟨Int.le_refl _, hl, rfl⟩
  | k + 1, a, acc, ha, hl, h => by
    simp only [decEs] at h ⊢
    have hb := deff_bound (okRd_drop hx a.toNat)
    rw [List.length_drop] at hb
    by_cases he : (deff (x.drop a.toNat)).2.2 = 0
    · rw [if_neg (by simpa using he)] at h ⊢
      have := decEs_bound x hx k _ (acc ++ [mkEff (deff (x.drop a.toNat)).1]) (by omega) (by omega) h
      simp only [List.length_append, List.length_cons, List.length_nil] at this
      exact ⟨by omega, this.2.1, by omega⟩
    · rw [if_pos he] at h
      exact absurd h he

def dpU (r : Int × Int × Int × List (List Cell) × Int × Int) : List AV × List Block :=
  ([.agg [.int .i64 r.1, .int .i64 r.2.1, .int .i64 r.2.2.1, .sl true 136 r.2.2.2.1], .one (.int .i64 r.2.2.2.2.1), .one (.int .i64 r.2.2.2.2.2)], [])

theorem end118 (m : Nat) (t7 t8 : Int) (x : List (List Cell)) (o e c q t : Int) (l : List (List Cell)) (he : e ≠ 0) :
    goF E (callOf L136) F118 0 (m + 1) P118_0 (M118_0 t7 t8 0 0 0 [] x o e c q t l) = some (dpU (0, 0, 0, [], 0, e)) := by
  rw [e118_0]
  have h1 : (e == 0) = false := by simpa using he
  have h2 : (e != 0) = true := by simpa using he
  rw [h1, h2]
  cases (decide (t8 < t7)) <;> rfl

theorem fin118 (m : Nat) (t7 t8 : Int) (x : List (List Cell)) (o c q t : Int) (l : List (List Cell)) (h : ¬ t8 < t7) :
    goF E (callOf L136) F118 0 (m + 1) P118_0 (M118_0 t7 t8 0 0 0 [] x o 0 c q t l) = some (dpU (finU c q t (l, o, 0))) := by
  rw [e118_0]
  refine cf (decide_eq_false h) (ct rfl ?_)
  unfold finU
  rw [if_neg (by simp)]
  by_cases hv : vUpd c q t l = 0
  · rw [if_neg (by simpa using hv)]
    exact cf (by simpa using hv) rfl
  · rw [if_pos hv]
    exact ct (by simpa using hv) rfl

theorem l118 (x : List (List Cell)) (hx : okRd x = true) (k c q t : Int) (hk : k ≤ 4) : ∀ (d i : Nat) (o : Int) (acc : List (List Cell)), i + d = k.toNat → 0 ≤ o → o ≤ x.length → acc.length = i →
    ∃ m, goF E (callOf L136) F118 0 m P118_0 (M118_0 k i 0 0 0 [] x o 0 c q t acc) = some (dpU (finU c q t (decEs x d o acc))) := by
  intro d
  induction d with
  | zero =>
    intro i o acc hi h0 h1 ha
    exact ⟨1, by rw [fin118 0 _ _ _ _ _ _ _ _ (by omega)]; rfl⟩
  | succ d ih =>
    intro i o acc hi h0 h1 ha
    have hat := okAt_mk hx h0 h1
    obtain ⟨c1, c2⟩ := reff_deff hat
    have hb := deff_bound (okRd_drop hx o.toNat)
    rw [List.length_drop] at hb
    by_cases he : (deff (x.drop o.toNat)).2.2 = 0
    · have c3 := c2 he
      obtain ⟨m, hm⟩ := ih (i + 1) (o + (deff (x.drop o.toNat)).2.1) (acc ++ [mkEff (deff (x.drop o.toNat)).1]) (by omega) (by omega) (by omega) (by simp; omega)
      refine ⟨m + 1, ?_⟩
      rw [e118_0]
      refine ct (decide_eq_true (by omega)) (ct rfl (ct hat (ct (fits_of (by simp; omega)) ?_)))
      rw [nat_wrap (n := 4) (by omega) (by omega), c3]
      simp only [decEs, if_neg (show ¬ (deff (x.drop o.toNat)).2.2 ≠ 0 by simpa using he)]
      exact hm
    · refine ⟨2, ?_⟩
      rw [e118_0]
      refine ct (decide_eq_true (by omega)) (ct rfl (ct hat (ct (fits_of (by simp; omega)) ?_)))
      rw [end118 0 _ _ _ _ _ _ _ _ _ (by rw [← c1]; exact he), ← c1]
      simp only [decEs, if_pos he, finU]

theorem k118 (x : List (List Cell)) (hx : okRd x = true) : ∃ m, runF E (callOf L136) m 118 [.one (.sl false 5 x)] [] = some (dpU (decU x)) := by
  have hc := chain_read hx (o := 0) (by omega) (by omega) 4
  have a1 := okAt_mk hx (o := 0) (by omega) (by omega)
  have a2 := rnum_at (e := 0) a1
  have a3 := rnum_at (e := (rnum x 0 0).2.2) a2
  simp only [show (4 : Int).toNat = 4 from rfl, show (0 : Int).toNat = 0 from rfl, List.drop_zero, chain] at hc
  unfold decU
  generalize hp1 : rnum x 0 0 = p1 at *
  generalize hp2 : rnum x p1.2.1 p1.2.2 = p2 at *
  have a4 := rnum_at (e := p2.2.2) a3
  generalize hp3 : rnum x p2.2.1 p2.2.2 = p3 at *
  generalize hp4 : rnum x p3.2.1 p3.2.2 = p4 at *
  obtain ⟨c1, c2⟩ := hc
  by_cases he : (rread x 4).2.2 = 0
  · obtain ⟨c3, c4⟩ := c2 he
    have hb := rread_bound hx he
    have q0 : nr (Abs.rowAt (rread x 4).1 0) 0 = p1.1 := by rw [c4]; rfl
    have q1 : nr (Abs.rowAt (rread x 4).1 1) 0 = p2.1 := by rw [c4]; rfl
    have q2 : nr (Abs.rowAt (rread x 4).1 2) 0 = p3.1 := by rw [c4]; rfl
    have q3 : nr (Abs.rowAt (rread x 4).1 3) 0 = p4.1 := by rw [c4]; rfl
    rw [if_neg (by simpa using he), q0, q1, q2, q3]
    have hz : p4.2.2 = 0 := by rw [← c1]; exact he
    by_cases h6 : 4 < p4.1
    · refine ⟨2, ?_⟩
      rw [e118, hp1, hp2, hp3, hp4, if_pos h6]
      refine ct a1 (ct a2 (ct a3 (ct a4 (ct (by simpa using hz) (ct (decide_eq_true h6) ?_)))))
      exact end118 0 _ _ _ _ _ _ _ _ _ (by decide)
    · obtain ⟨m, hm⟩ := l118 x hx p4.1 p1.1 p2.1 p3.1 (by omega) p4.1.toNat 0 (rread x 4).2.1 [] (by omega) hb.1 hb.2.1 rfl
      refine ⟨m + 1, ?_⟩
      rw [e118, hp1, hp2, hp3, hp4, if_neg h6]
      refine ct a1 (ct a2 (ct a3 (ct a4 (ct (by simpa using hz) (cf (decide_eq_false h6) ?_)))))
      rw [c3, hz, Int.zero_add]
      exact hm
  · refine ⟨2, ?_⟩
    rw [e118, hp1, hp2, hp3, hp4, if_pos he, c1]
    have hz : p4.2.2 ≠ 0 := by rw [← c1]; exact he
    refine ct a1 (ct a2 (ct a3 (ct a4 (cf (by simpa using hz) ?_))))
    exact end118 0 _ _ _ _ _ _ _ _ _ hz

theorem l120 (x : List (List Cell)) (hx : okRd x = true) (h : List (List Cell)) (k c q t : Int) (ht : h.length = 4) (htk : nr (Abs.rowAt h 3) 0 = k) (hk : k ≤ 4) : ∀ (d i : Nat) (o : Int) (acc : List (List Cell)), i + d = k.toNat → 0 ≤ o → o ≤ x.length → acc.length = i →
    ∃ m, goF E (callOf L137) F120 0 m P120_0 (M120_0 x h o i 0 0 0 [] c q t acc) = some (dpU (finU c q t (decEs x d o acc))) := by
  intro d
  induction d with
  | zero =>
    intro i o acc hi h0 h1 ha
    refine ⟨1, ?_⟩
    rw [e120_0, htk]
    refine ct (inB_of (by omega) (by omega)) (cf (decide_eq_false (by omega)) ?_)
    unfold finU decEs
    rw [if_neg (by simp)]
    by_cases hv : vUpd c q t acc = 0
    · rw [if_neg (by simpa using hv)]
      exact cf (by simpa using hv) rfl
    · rw [if_pos hv]
      exact ct (by simpa using hv) rfl
  | succ d ih =>
    intro i o acc hi h0 h1 ha
    have h4 := okRd_drop hx o.toNat
    have hb := deff_bound h4
    rw [List.length_drop] at hb
    have hl := (okRd_of hx).2
    by_cases he : (deff (x.drop o.toNat)).2.2 = 0
    · obtain ⟨m, hm⟩ := ih (i + 1) (o + (deff (x.drop o.toNat)).2.1) (acc ++ [mkEff (deff (x.drop o.toNat)).1]) (by omega) (by omega) (by omega) (by simp; omega)
      refine ⟨m + 1, ?_⟩
      rw [e120_0, htk, dropN_eq]
      refine ct (inB_of (by omega) (by omega)) (ct (decide_eq_true (by omega)) (ct (inB_of h0 (by omega)) (ct h4 (cf (by simpa using he) (ct (fits_of (by simp; omega)) ?_)))))
      rw [nat_wrap (n := 4) (by omega) (by omega), wrap64 (by omega) (by omega)]
      simp only [decEs, if_neg (show ¬ (deff (x.drop o.toNat)).2.2 ≠ 0 by simpa using he)]
      exact hm
    · refine ⟨1, ?_⟩
      rw [e120_0, htk, dropN_eq]
      refine ct (inB_of (by omega) (by omega)) (ct (decide_eq_true (by omega)) (ct (inB_of h0 (by omega)) (ct h4 (ct (by simpa using he) ?_))))
      simp only [decEs, if_pos he, finU]
      rfl

theorem k120 (x : List (List Cell)) (hx : okRd x = true) : ∃ m, runF E (callOf L137) m 120 [.one (.sl false 5 x)] [] = some (dpU (decU x)) := by
  unfold decU
  by_cases he : (rread x 4).2.2 = 0
  · have hb := rread_bound hx he
    have h3 : (rread x 4).1.length = 4 := hb.2.2.1
    rw [if_neg (by simpa using he)]
    by_cases h6 : 4 < nr (Abs.rowAt (rread x 4).1 3) 0
    · refine ⟨1, ?_⟩
      rw [e120, if_pos h6]
      exact ct (by simp [hx]) (cf (by simpa using he) (ct (inB_of (by omega) (by omega)) (ct (decide_eq_true h6) rfl)))
    · obtain ⟨m, hm⟩ := l120 x hx (rread x 4).1 _ (nr (Abs.rowAt (rread x 4).1 0) 0) (nr (Abs.rowAt (rread x 4).1 1) 0) (nr (Abs.rowAt (rread x 4).1 2) 0) h3 rfl (by omega) _ 0 (rread x 4).2.1 [] (Nat.zero_add _) hb.1 hb.2.1 rfl
      refine ⟨m + 1, ?_⟩
      rw [e120, if_neg h6]
      exact ct (by simp [hx]) (cf (by simpa using he) (ct (inB_of (by omega) (by omega)) (cf (decide_eq_false h6) (ct (inB_of (by omega) (by omega)) (ct (inB_of (by omega) (by omega)) (ct (inB_of (by omega) (by omega)) hm))))))
  · refine ⟨1, ?_⟩
    rw [e120, if_pos he]
    exact ct (by simp [hx]) (ct (by simpa using he) rfl)

theorem vUpd_ok {c q t : Int} {l : List (List Cell)} (h : vUpd c q t l = 0) : 101 ≤ c ∧ c < 107 ∧ 1 ≤ q ∧ q ≤ 8 ∧ 0 ≤ t ∧ t ≤ 1000 ∧ 1 ≤ l.length ∧ l.length ≤ 4 ∧ vEffs l = 0 := by
  unfold vUpd at h
  split at h
  · simp at h
  · split at h
    · simp at h
    · split at h
      · simp at h
      · split at h
        · rename_i h1; exact absurd h h1
        · omega

theorem decU_len (x : List (List Cell)) (hx : okRd x = true) : (decU x).2.2.2.1.length ≤ 4 := by
  unfold decU
  split
  · simp
  · rename_i h0
    split
    · simp
    · rename_i h6
      unfold finU
      split
      · simp
      · rename_i h1
        split
        · simp
        · have hb := rread_bound hx (c := 4) (by simpa using h0)
          have := (decEs_bound x hx _ _ [] hb.1 hb.2.1 (by simpa using h1)).2.2
          simp only [this, List.length_nil]
          omega

end Go.Proofs.YtejimgikldiajaaGreat

namespace Go.Proofs.YtejimgikldiajaaGreat

open Go.Abs

theorem okRows_ofU {c : List (List Cell)} (h : okRowsU c = true) : c.length ≤ 1000 ∧ shortRowsU c = true := by
  unfold okRowsU at h
  simp only [Bool.and_eq_true, decide_eq_true_eq] at h
  exact h

theorem okRows_mkU {c : List (List Cell)} (h1 : c.length ≤ 1000) (h2 : shortRowsU c = true) : okRowsU c = true := by
  unfold okRowsU
  simp only [Bool.and_eq_true, decide_eq_true_eq]
  exact ⟨h1, h2⟩

theorem short_atU {c : List (List Cell)} (h : shortRowsU c = true) {i : Nat} (hi : i < c.length) : (nl (Abs.rowAt c i) 3).length < 9223372036854775808 := by
  have := all_at h hi
  unfold shortRowU at this
  simpa using this

theorem vStF_first (q q' : List Cell) (l : List (List Cell)) : vStF true q l = vStF true q' l := by
  cases l <;> simp [vStF]

theorem vSt_step (first : Bool) (q r : List Cell) (rs : List (List Cell)) : vStF first q (r :: rs) =
    if vUpdR r ≠ 0 then vUpdR r
    else if first = false ∧ cmpU (nr r 0) (nr r 1) (nr q 0) (nr q 1) ≤ 0 then 7
    else if 1 < nr r 1 ∧ (first = true ∨ nr q 0 ≠ nr r 0 ∨ nr q 1 ≠ nr r 1 - 1) then 8
    else vStF false r rs := rfl

theorem l110 (c : List (List Cell)) (hc : c.length ≤ 1000) : ∀ (d i : Nat), i + d = c.length →
    ∃ m, goF E (callOf L120) F110 0 m P110_0 (M110_0 c c c.length i) = some ([.one (.int .i64 (vStF (decide (i = 0)) (Abs.rowAt c (i - 1)) (c.drop i)))], [])
  | 0, i, hi => by
    refine ⟨1, ?_⟩
    rw [e110_0]
    have : c.drop i = [] := List.drop_eq_nil_of_le (by omega)
    rw [this, vStF]
    exact cf (decide_eq_false (by omega)) rfl
  | d + 1, i, hi => by
    have hi' : i < c.length := by omega
    obtain ⟨m, hm⟩ := l110 c hc d (i + 1) (by omega)
    rw [decide_eq_false (by omega : ¬ i + 1 = 0), Nat.add_sub_cancel] at hm
    refine ⟨m + 1, ?_⟩
    rw [e110_0, drop_cons c i hi', vSt_step, Int.toNat_natCast, nat_wrap (n := c.length) hi' (by omega), hm]
    refine ct (decide_eq_true (by omega)) (ct (inB_nat' hi') ?_)
    generalize hr : Abs.rowAt c i = r
    show cond (vUpdR r != 0) (some ([AV.one (AC.int .i64 (vUpdR r))], ([] : List Block))) _ = _
    by_cases hv : vUpdR r = 0
    · rw [if_neg (by simpa using hv)]
      refine cf (by simpa using hv) ?_
      have hn := vUpd_ok hv
      by_cases h0 : i = 0
      · subst h0
        refine cf (decide_eq_false (by simp)) ?_
        rw [decide_eq_true rfl, if_neg (by simp)]
        by_cases h1 : 1 < nr r 1
        · rw [if_pos ⟨h1, Or.inl rfl⟩]
          exact ct (decide_eq_true h1) (ct (by simp) rfl)
        · rw [if_neg (fun h => h1 h.1)]
          exact cf (decide_eq_false h1) rfl
      · rw [wrap64 (n := (i : Int) - 1) (by omega) (by omega), show ((i : Int) - 1).toNat = i - 1 by omega, wrap64 (n := nr r 1 - 1) (by omega) (by omega)]
        rw [decide_eq_false h0]
        generalize Abs.rowAt c (i - 1) = q
        refine ct (decide_eq_true (by omega)) (ct (inB_of (by omega) (by omega)) ?_)
        by_cases h2 : cmpU (nr r 0) (nr r 1) (nr q 0) (nr q 1) ≤ 0
        · rw [if_pos ⟨rfl, h2⟩]
          exact ct (decide_eq_true h2) rfl
        · rw [if_neg (fun h => h2 h.2)]
          refine cf (decide_eq_false h2) ?_
          by_cases h1 : 1 < nr r 1
          · refine ct (decide_eq_true h1) (cf (beq_eq_false_iff_ne.2 (by omega)) (ct (inB_of (by omega) (by omega)) ?_))
            by_cases h3 : nr q 0 = nr r 0
            · refine cf (bne_eq_false_iff_eq.2 h3) (ct (inB_of (by omega) (by omega)) ?_)
              by_cases h4 : nr q 1 = nr r 1 - 1
              · rw [if_neg (by simp [h3, h4])]
                exact cf (bne_eq_false_iff_eq.2 h4) rfl
              · rw [if_pos ⟨h1, Or.inr (Or.inr h4)⟩]
                exact ct (bne_iff_ne.2 h4) rfl
            · rw [if_pos ⟨h1, Or.inr (Or.inl h3)⟩]
              exact ct (bne_iff_ne.2 h3) rfl
          · rw [if_neg (fun h => h1 h.1)]
            exact cf (decide_eq_false h1) rfl
    · rw [if_pos hv]
      exact ct (by simpa using hv) rfl

theorem k110 (c : List (List Cell)) (h : okLn c = true) : ∃ m, runF E (callOf L120) m 110 [.one (.sl false 96 c)] [] = some ([.one (.int .i64 (vSt c))], []) := by
  have h1 := okLn_of h
  obtain ⟨m, hm⟩ := l110 c h1 c.length 0 (by omega)
  refine ⟨m + 1, ?_⟩
  rw [e110]
  refine Eq.trans hm ?_
  rw [decide_eq_true rfl, List.drop_zero, vStF_first _ []]
  rfl

theorem cmpU_swap (a n b m : Int) : (cmpU b m a n ≥ 0) ↔ (cmpU a n b m ≤ 0) := by
  have := cmpU_cases a n b m
  have := cmpU_cases b m a n
  omega

theorem l71 (c : List (List Cell)) (hc : c.length ≤ 1000) : ∀ (d i : Nat), i + d = c.length →
    ∃ m, goF E (callOf L110) F71 0 m P71_0 (M71_0 c i) = some ([.one (.int .i64 (vStF (decide (i = 0)) (Abs.rowAt c (i - 1)) (c.drop i)))], [])
  | 0, i, hi => by
    refine ⟨1, ?_⟩
    rw [e71_0]
    have : c.drop i = [] := List.drop_eq_nil_of_le (by omega)
    rw [this, vStF]
    exact cf (decide_eq_false (by omega)) rfl
  | d + 1, i, hi => by
    have hi' : i < c.length := by omega
    obtain ⟨m, hm⟩ := l71 c hc d (i + 1) (by omega)
    rw [decide_eq_false (by omega : ¬ i + 1 = 0), Nat.add_sub_cancel] at hm
    have hib := inB_nat' hi'
    refine ⟨m + 1, ?_⟩
    rw [e71_0, drop_cons c i hi', vSt_step, Int.toNat_natCast, nat_wrap (n := c.length) hi' (by omega), hm]
    refine ct (decide_eq_true (by omega)) (ct hib ?_)
    generalize hr : Abs.rowAt c i = r
    show cond (vUpdR r != 0) (some ([AV.one (AC.int .i64 (vUpdR r))], ([] : List Block))) _ = _
    by_cases hv : vUpdR r = 0
    · rw [if_neg (by simpa using hv)]
      refine cf (by simpa using hv) ?_
      have hn := vUpd_ok hv
      by_cases h0 : i = 0
      · subst h0
        refine cf (decide_eq_false (by simp)) (ct hib ?_)
        rw [decide_eq_true rfl, if_neg (by simp)]
        by_cases h1 : 1 < nr r 1
        · rw [if_pos ⟨h1, Or.inl rfl⟩]
          exact ct (decide_eq_true h1) (ct (by simp) rfl)
        · rw [if_neg (fun h => h1 h.1)]
          exact cf (decide_eq_false h1) rfl
      · rw [wrap64 (n := (i : Int) - 1) (by omega) (by omega), show ((i : Int) - 1).toNat = i - 1 by omega, wrap64 (n := nr r 1 - 1) (by omega) (by omega)]
        rw [decide_eq_false h0]
        generalize Abs.rowAt c (i - 1) = q
        have hsw := cmpU_swap (nr r 0) (nr r 1) (nr q 0) (nr q 1)
        refine ct (decide_eq_true (by omega)) (ct (inB_of (by omega) (by omega)) (ct hib ?_))
        by_cases h2 : cmpU (nr r 0) (nr r 1) (nr q 0) (nr q 1) ≤ 0
        · rw [if_pos ⟨rfl, h2⟩]
          exact ct (decide_eq_true (hsw.2 h2)) rfl
        · rw [if_neg (fun h => h2 h.2)]
          refine cf (decide_eq_false (fun h => h2 (hsw.1 h))) (ct hib ?_)
          by_cases h1 : 1 < nr r 1
          · refine ct (decide_eq_true h1) (cf (beq_eq_false_iff_ne.2 (by omega)) (ct (inB_of (by omega) (by omega)) (ct hib ?_)))
            by_cases h3 : nr q 0 = nr r 0
            · refine cf (bne_eq_false_iff_eq.2 h3) (ct (inB_of (by omega) (by omega)) (ct hib ?_))
              by_cases h4 : nr q 1 = nr r 1 - 1
              · rw [if_neg (by simp [h3, h4])]
                exact cf (bne_eq_false_iff_eq.2 h4) rfl
              · rw [if_pos ⟨h1, Or.inr (Or.inr h4)⟩]
                exact ct (bne_iff_ne.2 h4) rfl
            · rw [if_pos ⟨h1, Or.inr (Or.inl h3)⟩]
              exact ct (bne_iff_ne.2 h3) rfl
          · rw [if_neg (fun h => h1 h.1)]
            exact cf (decide_eq_false h1) rfl
    · rw [if_pos hv]
      exact ct (by simpa using hv) rfl

theorem k71 (c : List (List Cell)) (h : okLn c = true) : ∃ m, runF E (callOf L110) m 71 [.one (.sl false 96 c)] [] = some ([.one (.int .i64 (vSt c))], []) := by
  have h1 := okLn_of h
  obtain ⟨m, hm⟩ := l71 c h1 c.length 0 (by omega)
  refine ⟨m + 1, ?_⟩
  rw [e71]
  refine Eq.trans hm ?_
  rw [decide_eq_true rfl, List.drop_zero, vStF_first _ []]
  rfl

theorem l39 (c d : List (List Cell)) (hc : c.length ≤ 1000) (hs : shortRowsU c = true) (hd : c.length = d.length) : ∀ (e i : Nat), i + e = c.length →
    ∃ m, goF E (callOf L71) F39 0 m P39_0 (M39_0 c d i) = some ([.one (.bool (eqStF (c.drop i) (d.drop i)))], [])
  | 0, i, hi => by
    refine ⟨1, ?_⟩
    rw [e39_0]
    have : c.drop i = [] := List.drop_eq_nil_of_le (by omega)
    rw [this, eqStF]
    exact cf (decide_eq_false (by omega)) rfl
  | e + 1, i, hi => by
    have hi' : i < c.length := by omega
    obtain ⟨m, hm⟩ := l39 c d hc hs hd e (i + 1) (by omega)
    refine ⟨m + 1, ?_⟩
    rw [e39_0]
    rw [drop_cons c i hi', eqStF, Int.toNat_natCast, nat_wrap (n := c.length) hi' (by omega), hm, rowAt_drop, List.drop_drop, Nat.add_zero]
    refine ct (decide_eq_true (by omega)) (ct (inB_nat' hi') (ct (inB_nat' (by omega)) (ct (decide_eq_true (short_atU hs hi')) ?_)))
    show cond (!(eqUR (Abs.rowAt c i) (Abs.rowAt d i))) _ _ = _
    generalize eqUR (Abs.rowAt c i) (Abs.rowAt d i) = b1
    cases b1 <;> rfl

theorem k39 (c d : List (List Cell)) (h : okRowsU c = true) : ∃ m, runF E (callOf L71) m 39 [.one (.sl false 96 c), .one (.sl false 96 d)] [] = some ([.one (.bool (eqSt c d))], []) := by
  obtain ⟨h1, h2⟩ := okRows_ofU h
  unfold eqSt
  by_cases hd : c.length = d.length
  · obtain ⟨m, hm⟩ := l39 c d h1 h2 hd c.length 0 (by omega)
    refine ⟨m + 1, ?_⟩
    rw [e39, show (0 : Int) = ((0 : Nat) : Int) from rfl, hm, decide_eq_true hd]
    exact cf (bne_eq_false_iff_eq.2 (by omega)) rfl
  · refine ⟨1, ?_⟩
    rw [e39, decide_eq_false hd]
    exact ct (bne_iff_ne.2 (by omega)) rfl

theorem decU_bound {x : List (List Cell)} (hx : okRd x = true) : 0 ≤ (decU x).2.2.2.2.1 ∧ (decU x).2.2.2.2.1 ≤ x.length := by
  unfold decU
  split
  · simp
  · rename_i h0
    have hb := rread_bound hx (c := 4) (by simpa using h0)
    split
    · simp
    · unfold finU
      split
      · simp
      · rename_i h1
        split
        · simp
        · have := decEs_bound x hx _ _ [] hb.1 hb.2.1 (by simpa using h1)
          simp only
          omega

def dcU (r : List (List Cell) × Int × Int) : List AV × List Block := ([.one (.sl true 96 r.1), .one (.int .i64 r.2.1), .one (.int .i64 r.2.2)], [])

theorem l87 (x : List (List Cell)) (hx : okRd x = true) (k : Int) (hk : k ≤ 48) (hk0 : 0 ≤ k) : ∀ (d i : Nat) (o : Int) (acc : List (List Cell)), i + d = k.toNat → 0 ≤ o → o ≤ x.length → acc.length = i →
    ∃ m, goF E (callOf L39) F87 0 m P87_0 (M87_0 x k o acc i) = some (dcU (decUs x d o acc)) := by
  intro d
  induction d with
  | zero =>
    intro i o acc hi h0 h1 ha
    refine ⟨1, ?_⟩
    rw [e87_0]
    exact cf (decide_eq_false (by omega)) rfl
  | succ d ih =>
    intro i o acc hi h0 h1 ha
    have h4 := okRd_drop hx o.toNat
    have hb := decU_bound h4
    rw [List.length_drop] at hb
    have hl := (okRd_of hx).2
    by_cases he : (decU (x.drop o.toNat)).2.2.2.2.2 = 0
    · obtain ⟨m, hm⟩ := ih (i + 1) (o + (decU (x.drop o.toNat)).2.2.2.2.1) (acc ++ [mkU (decU (x.drop o.toNat))]) (by omega) (by omega) (by omega) (by simp; omega)
      refine ⟨m + 1, ?_⟩
      rw [e87_0, dropN_eq]
      refine ct (decide_eq_true (by omega)) (ct (inB_of h0 (by omega)) (ct h4 (cf (by simpa using he) (ct (fits_of (by simp; omega)) ?_))))
      rw [wrap64 (by omega) (by omega), nat_wrap (n := 48) (by omega) (by omega)]
      simp only [decUs, if_neg (show ¬ (decU (x.drop o.toNat)).2.2.2.2.2 ≠ 0 by simpa using he)]
      exact hm
    · refine ⟨1, ?_⟩
      rw [e87_0, dropN_eq]
      refine ct (decide_eq_true (by omega)) (ct (inB_of h0 (by omega)) (ct h4 (ct (by simpa using he) ?_)))
      simp only [decUs, if_pos he]
      rfl

theorem rnum2_pos {x : List (List Cell)} (hx : okRd x = true) (h : (rnum2 x).2.2 = 0) : 0 ≤ (rnum2 x).1 ∧ 0 ≤ (rnum2 x).2.1 ∧ (rnum2 x).2.1 ≤ x.length := by
  unfold rnum2 at h ⊢
  split
  · rename_i he
    rw [if_pos he] at h
    exact absurd h he
  · rename_i he
    rw [if_neg he] at h
    have hb := udec_bound (okRd_of hx).1 (by simpa using he)
    split
    · rename_i h2
      rw [if_pos h2] at h
      simp at h
    · exact ⟨by omega, by omega, by omega⟩

theorem k87 (x : List (List Cell)) (hx : okRd x = true) : ∃ m, runF E (callOf L39) m 87 [.one (.sl false 5 x)] [] = some (dcU (decL x)) := by
  unfold decL
  by_cases he : (rnum2 x).2.2 = 0
  · rw [if_neg (by simpa using he)]
    have hb := rnum2_pos hx he
    by_cases h9 : 48 < (rnum2 x).1
    · refine ⟨1, ?_⟩
      rw [e87, if_pos h9]
      exact ct hx (cf (by simpa using he) (ct (decide_eq_true h9) rfl))
    · obtain ⟨m, hm⟩ := l87 x hx (rnum2 x).1 (by omega) (by omega) (rnum2 x).1.toNat 0 (rnum2 x).2.1 [] (by omega) (by omega) (by omega) rfl
      refine ⟨m + 1, ?_⟩
      rw [e87, if_neg h9]
      exact ct hx (cf (by simpa using he) (cf (decide_eq_false h9) hm))
  · refine ⟨1, ?_⟩
    rw [e87, if_pos he]
    exact ct hx (ct (by simpa using he) rfl)

theorem eqStF_refl : ∀ c : List (List Cell), eqStF c c = true
  | [] => rfl
  | r :: c => by
    rw [eqStF]
    show (eqUR r r && eqStF c c) = true
    rw [eqStF_refl c]
    simp [eqUR, eqU_refl]

theorem eqSt_refl (c : List (List Cell)) : eqSt c c = true := by
  simp [eqSt, eqStF_refl]

structure FitU (c : List (List Cell)) : Prop where
  vld : Vld c
  upd : ∀ r ∈ c, vUpdR r = 0
  ur : c.all isUR = true
  len : c.length ≤ 100

structure PInvU (a : Nat) (i : Int) (acc : List (List Cell)) : Prop where
  asc : Asc acc
  gap : Gap acc
  low : ∀ r ∈ acc, nr r 0 < 101 + a ∨ (nr r 0 = 101 + a ∧ nr r 1 ≤ i)
  last : 0 < i → ∃ q ∈ acc, nr q 0 = 101 + a ∧ nr q 1 = i
  pr : acc.all isUR = true

end Go.Proofs.YtejimgikldiajaaGreat

namespace Go.Proofs.YtejimgikldiajaaGreat

open Go.Abs

set_option maxRecDepth 20000

theorem e58 (m : Nat) (n : Int) : runF E (callOf L18) (m + 1) 58 [.one (.int .i64 n)] [] =
  (cond (decide (n ≥ 101))
  (cond (decide (n < 107))
  (some ([.one (.bool true)], []))
  (cond (decide (n ≥ 201))
  (some ([.one (.bool (decide (n < 204)))], []))
  (some ([.one (.bool false)], []))))
  (cond (decide (n ≥ 201))
  (some ([.one (.bool (decide (n < 204)))], []))
  (some ([.one (.bool false)], [])))) := by kernel_rfl

theorem e19 (m : Nat) (n : Int) : runF E (callOf L58) (m + 1) 19 [.one (.int .i64 n)] [] =
  (cond (decide (n ≥ 1))
  (cond (decide (n ≤ 12))
  (some ([.one (.bool true)], []))
  (some ([.one (.bool (isUser n))], [])))
  (some ([.one (.bool (isUser n))], []))) := by kernel_rfl

theorem e23 (m : Nat) (n : Int) : runF E (callOf L19) (m + 1) 23 [.one (.int .i64 n)] [] =
  (cond (isServer n)
  (some ([.one (.bool true)], []))
  (cond (isClient n)
  (some ([.one (.bool true)], []))
  (some ([.one (.bool (isAdmin n))], [])))) := by kernel_rfl

theorem e60 (m : Nat) (f1 t1 : List (List Cell)) : runF E (callOf L23) (m + 1) 60 [.agg [.sl false 93 f1, .sl false 93 t1]] [] =
  (cond ((f1.length : Int) == 0)
  (some ([.one (.bool ((t1.length : Int) == 0))], []))
  (some ([.one (.bool false)], []))) := by kernel_rfl

theorem e69 (m : Nat) (f1 t1 : List (List Cell)) : runF E (callOf L60) (m + 1) 69 [.agg [.sl false 93 f1, .sl false 93 t1]] [] =
  (cond ((f1.length : Int) == 0)
  (some ([.one (.bool ((t1.length : Int) == 0))], []))
  (some ([.one (.bool false)], []))) := by kernel_rfl

noncomputable def P59_0 : List AItem := F59.at [.snd, .fst, .snd, .sub, .head]

def M59_0 (t0 : List (List Cell)) (t1 : Int) (t7 : Int) (t8 : Int) : St := ⟨[(0, .one (.sl false 54 t0)), (1, .one (.int .i64 t1)), (7, .one (.int .i64 t7)), (8, .one (.int .i64 t8))], []⟩

theorem e59 (m : Nat) (l : List (List Cell)) (f : Int) : runF E (callOf L69) (m + 1) 59 [.one (.sl false 54 l), .one (.int .i64 f)] [] =
  (goF E (callOf L69) F59 0 m P59_0 (M59_0 l f (l.length : Int) 0)) := by kernel_rfl

theorem e59_0 (m : Nat) (t0 : List (List Cell)) (t1 t7 t8 : Int) : goF E (callOf L69) F59 0 (m + 1) P59_0 (M59_0 t0 t1 t7 t8) =
  (cond (decide (t8 < t7))
  (cond (inB t8 t0.length)
  (cond (t1 == (nr (Abs.rowAt t0 (Int.toNat t8)) 0))
  (some ([.one (.int .i64 t8)], []))
  (goF E (callOf L69) F59 0 m P59_0 (M59_0 t0 t1 t7 (IntKind.wrap .i64 (t8 + 1)))))
  none)
  (some ([.one (.int .i64 (-1))], []))) := by kernel_rfl

theorem e20 (m : Nat) (l : List (List Cell)) (f : Int) : runF E (callOf L59) (m + 1) 20 [.one (.sl false 54 l), .one (.int .i64 f)] [] =
  (cond (decide (l.length < 9223372036854775808))
  (some ([.one (.bool (decide ((idxF l f) ≥ 0)))], []))
  none) := by kernel_rfl

theorem e21 (m : Nat) (k1 f1 t1 p1 n1 r1 o1 : Int) (cf1 ct1 bf1 bt1 : List (List Cell)) (h1 : Bool) (ef1 et1 g1 u1 v1 : List (List Cell)) (m1 : Bool) (f : Int) : runF E (callOf L20) (m + 1) 21 [.agg [.int .i64 k1, .int .i64 f1, .int .i64 t1, .int .i64 p1, .int .i64 n1, .int .i64 r1, .int .i64 o1, .sl false 93 cf1, .sl false 93 ct1, .sl false 93 bf1, .sl false 93 bt1, .bool h1, .sl false 93 ef1, .sl false 93 et1, .sl false 93 g1, .sl false 96 u1, .sl false 103 v1, .bool m1], .one (.int .i64 f)] [] =
  (cond (f == 0)
  (some ([.one (.bool ((p1 == 0) && ((n1 == 0) && true)))], []))
  (cond (f == 1)
  (some ([.one (.bool (r1 == 0))], []))
  (cond (f == 2)
  (some ([.one (.bool (o1 == 0))], []))
  (cond (f == 3)
  (some ([.one (.bool ((g1.length : Int) == 0))], []))
  (cond (f == 4)
  (some ([.one (.bool ((u1.length : Int) == 0))], []))
  (cond (f == 5)
  (some ([.one (.bool (noT cf1 ct1))], []))
  (cond (f == 6)
  (some ([.one (.bool ((v1.length : Int) == 0))], []))
  (cond (f == 7)
  (some ([.one (.bool (!m1))], []))
  (cond (f == 8)
  (some ([.one (.bool (!h1))], []))
  (cond (f == 9)
  (some ([.one (.bool (noT bf1 bt1))], []))
  (some ([.one (.bool (noT ef1 et1))], [])))))))))))) := by kernel_rfl

noncomputable def P109_0 : List AItem := F109.at [.snd, .snd, .fst, .snd, .sub, .head]

def M109_0 (t0 : List (List Cell)) (t9 : List (List Cell)) (t10 : Int) (t11 : Int) : St := ⟨[(0, .one (.sl false 96 t0)), (9, .one (.sl false 96 t9)), (10, .one (.int .i64 t10)), (11, .one (.int .i64 t11))], []⟩

theorem e109 (m : Nat) (c : List (List Cell)) : runF E (callOf L21) (m + 1) 109 [.one (.sl false 96 c)] [] =
  (cond (decide ((c.length : Int) > 4))
  (some ([.one (.int .i64 3)], []))
  (goF E (callOf L21) F109 0 m P109_0 (M109_0 c c (c.length : Int) 0))) := by kernel_rfl

theorem e109_0 (m : Nat) (t0 t9 : List (List Cell)) (t10 t11 : Int) : goF E (callOf L21) F109 0 (m + 1) P109_0 (M109_0 t0 t9 t10 t11) =
  (cond (decide (t11 < t10))
  (cond (inB t11 t9.length)
  (cond ((vUpd (nr (Abs.rowAt t9 (Int.toNat t11)) 0) (nr (Abs.rowAt t9 (Int.toNat t11)) 1) (nr (Abs.rowAt t9 (Int.toNat t11)) 2) (nl (Abs.rowAt t9 (Int.toNat t11)) 3)) != 0)
  (some ([.one (.int .i64 (vUpd (nr (Abs.rowAt t9 (Int.toNat t11)) 0) (nr (Abs.rowAt t9 (Int.toNat t11)) 1) (nr (Abs.rowAt t9 (Int.toNat t11)) 2) (nl (Abs.rowAt t9 (Int.toNat t11)) 3)))], []))
  (cond (decide (t11 > 0))
  (cond (inB (IntKind.wrap .i64 (t11 - 1)) t0.length)
  (cond (decide ((cmpU (nr (Abs.rowAt t9 (Int.toNat t11)) 0) (nr (Abs.rowAt t9 (Int.toNat t11)) 1) (nr (Abs.rowAt t0 (Int.toNat (IntKind.wrap .i64 (t11 - 1)))) 0) (nr (Abs.rowAt t0 (Int.toNat (IntKind.wrap .i64 (t11 - 1)))) 1)) ≤ 0))
  (some ([.one (.int .i64 7)], []))
  (goF E (callOf L21) F109 0 m P109_0 (M109_0 t0 t9 t10 (IntKind.wrap .i64 (t11 + 1)))))
  none)
  (goF E (callOf L21) F109 0 m P109_0 (M109_0 t0 t9 t10 (IntKind.wrap .i64 (t11 + 1))))))
  none)
  (some ([.one (.int .i64 0)], []))) := by kernel_rfl

noncomputable def P28_0 : List AItem := F28.at [.snd, .snd, .fst, .snd, .sub, .head]

def M28_0 (t0 : List (List Cell)) (t3 : Int) : St := ⟨[(0, .one (.sl false 96 t0)), (3, .one (.int .i64 t3))], []⟩

theorem e28 (m : Nat) (c : List (List Cell)) : runF E (callOf L109) (m + 1) 28 [.one (.sl false 96 c)] [] =
  (cond (decide ((c.length : Int) > 4))
  (some ([.one (.int .i64 3)], []))
  (goF E (callOf L109) F28 0 m P28_0 (M28_0 c 0))) := by kernel_rfl

theorem e28_0 (m : Nat) (t0 : List (List Cell)) (t3 : Int) : goF E (callOf L109) F28 0 (m + 1) P28_0 (M28_0 t0 t3) =
  (cond (decide (t3 < (t0.length : Int)))
  (cond (inB t3 t0.length)
  (cond ((vUpd (nr (Abs.rowAt t0 (Int.toNat t3)) 0) (nr (Abs.rowAt t0 (Int.toNat t3)) 1) (nr (Abs.rowAt t0 (Int.toNat t3)) 2) (nl (Abs.rowAt t0 (Int.toNat t3)) 3)) != 0)
  (some ([.one (.int .i64 (vUpd (nr (Abs.rowAt t0 (Int.toNat t3)) 0) (nr (Abs.rowAt t0 (Int.toNat t3)) 1) (nr (Abs.rowAt t0 (Int.toNat t3)) 2) (nl (Abs.rowAt t0 (Int.toNat t3)) 3)))], []))
  (cond (decide (t3 > 0))
  (cond (inB (IntKind.wrap .i64 (t3 - 1)) t0.length)
  (cond (inB t3 t0.length)
  (cond (decide ((cmpU (nr (Abs.rowAt t0 (Int.toNat (IntKind.wrap .i64 (t3 - 1)))) 0) (nr (Abs.rowAt t0 (Int.toNat (IntKind.wrap .i64 (t3 - 1)))) 1) (nr (Abs.rowAt t0 (Int.toNat t3)) 0) (nr (Abs.rowAt t0 (Int.toNat t3)) 1)) ≥ 0))
  (some ([.one (.int .i64 7)], []))
  (goF E (callOf L109) F28 0 m P28_0 (M28_0 t0 (IntKind.wrap .i64 (t3 + 1)))))
  none)
  none)
  (goF E (callOf L109) F28 0 m P28_0 (M28_0 t0 (IntKind.wrap .i64 (t3 + 1))))))
  none)
  (some ([.one (.int .i64 0)], []))) := by kernel_rfl

theorem e62 (m : Nat) (k1 f1 t1 p1 n1 r1 o1 : Int) (cf1 ct1 bf1 bt1 : List (List Cell)) (h1 : Bool) (ef1 et1 g1 u1 v1 : List (List Cell)) (m1 : Bool) : runF E (callOf L28) (m + 1) 62 [.agg [.int .i64 k1, .int .i64 f1, .int .i64 t1, .int .i64 p1, .int .i64 n1, .int .i64 r1, .int .i64 o1, .sl false 93 cf1, .sl false 93 ct1, .sl false 93 bf1, .sl false 93 bt1, .bool h1, .sl false 93 ef1, .sl false 93 et1, .sl false 93 g1, .sl false 96 u1, .sl false 103 v1, .bool m1]] [] =
  (cond (k1 == 5)
  (cond (decide (u1.length < 9223372036854775808))
  (some ([.one (.int .i64 (vCh u1))], []))
  none)
  (cond (okLn u1)
  (cond ((vSt u1) != 0)
  (some ([.one (.int .i64 (vSt u1))], []))
  (cond (k1 == 1)
  (cond (o1 == 1)
  (cond (decide ((u1.length : Int) > 0))
  (some ([.one (.int .i64 2)], []))
  (some ([.one (.int .i64 0)], [])))
  (some ([.one (.int .i64 0)], [])))
  (some ([.one (.int .i64 0)], []))))
  none)) := by kernel_rfl

noncomputable def P64_0 : List AItem := F64.at [.snd, .fst, .snd, .sub, .head]

def M64_0 (t0 : List (List Cell)) (t5 : List (List Cell)) (t6 : Int) (t7 : Int) : St := ⟨[(0, .one (.sl false 103 t0)), (5, .one (.sl false 103 t5)), (6, .one (.int .i64 t6)), (7, .one (.int .i64 t7))], []⟩

theorem e64 (m : Nat) (v : List (List Cell)) : runF E (callOf L62) (m + 1) 64 [.one (.sl false 103 v)] [] =
  (goF E (callOf L62) F64 0 m P64_0 (M64_0 v v (v.length : Int) 0)) := by kernel_rfl

theorem e64_0 (m : Nat) (t0 t5 : List (List Cell)) (t6 t7 : Int) : goF E (callOf L62) F64 0 (m + 1) P64_0 (M64_0 t0 t5 t6 t7) =
  (cond (decide (t7 < t6))
  (cond (inB t7 t5.length)
  (cond (decide ((nr (Abs.rowAt t5 (Int.toNat t7)) 0) < 1))
  (some ([.one (.int .i64 9)], []))
  (cond (decide ((nr (Abs.rowAt t5 (Int.toNat t7)) 1) < 1))
  (some ([.one (.int .i64 9)], []))
  (cond (decide ((nr (Abs.rowAt t5 (Int.toNat t7)) 1) > 1000000))
  (some ([.one (.int .i64 9)], []))
  (cond (decide (t7 > 0))
  (cond (inB (IntKind.wrap .i64 (t7 - 1)) t0.length)
  (cond (decide ((nr (Abs.rowAt t5 (Int.toNat t7)) 0) ≤ (nr (Abs.rowAt t0 (Int.toNat (IntKind.wrap .i64 (t7 - 1)))) 0)))
  (some ([.one (.int .i64 7)], []))
  (goF E (callOf L62) F64 0 m P64_0 (M64_0 t0 t5 t6 (IntKind.wrap .i64 (t7 + 1)))))
  none)
  (goF E (callOf L62) F64 0 m P64_0 (M64_0 t0 t5 t6 (IntKind.wrap .i64 (t7 + 1))))))))
  none)
  (some ([.one (.int .i64 0)], []))) := by kernel_rfl

theorem e22 (m : Nat) (k1 f1 t1 p1 n1 r1 o1 : Int) (cf1 ct1 bf1 bt1 : List (List Cell)) (h1 : Bool) (ef1 et1 g1 u1 v1 : List (List Cell)) (m1 : Bool) (f : Int) : runF E (callOf L64) (m + 1) 22 [.agg [.int .i64 k1, .int .i64 f1, .int .i64 t1, .int .i64 p1, .int .i64 n1, .int .i64 r1, .int .i64 o1, .sl false 93 cf1, .sl false 93 ct1, .sl false 93 bf1, .sl false 93 bt1, .bool h1, .sl false 93 ef1, .sl false 93 et1, .sl false 93 g1, .sl false 96 u1, .sl false 103 v1, .bool m1], .one (.int .i64 f)] [] =
  (cond (f == 0)
  (cond (!(isUser p1))
  (some ([.one (.int .i64 9)], []))
  (cond (decide (n1 < 1))
  (some ([.one (.int .i64 9)], []))
  (cond (decide (n1 > 1000000))
  (some ([.one (.int .i64 9)], []))
  (some ([.one (.int .i64 0)], [])))))
  (cond (f == 1)
  (cond (decide (r1 < 1))
  (some ([.one (.int .i64 9)], []))
  (cond (decide (r1 > 1000000))
  (some ([.one (.int .i64 9)], []))
  (some ([.one (.int .i64 0)], []))))
  (cond (f == 2)
  (cond (decide (o1 < 1))
  (some ([.one (.int .i64 10)], []))
  (cond (decide (o1 > 3))
  (some ([.one (.int .i64 10)], []))
  (some ([.one (.int .i64 0)], []))))
  (cond (f == 3)
  (cond (okRows g1)
  (some ([.one (.int .i64 (vCfg g1))], []))
  none)
  (cond (f == 4)
  (cond (okLn u1)
  (some ([.one (.int .i64 (vStW (Msg.mk k1 f1 t1 p1 n1 r1 o1 cf1 ct1 bf1 bt1 h1 ef1 et1 g1 u1 v1 m1)))], []))
  none)
  (cond (f == 5)
  (cond (okRows cf1 && okRows ct1)
  (some ([.one (.int .i64 (vCert cf1 ct1))], []))
  none)
  (cond (f == 6)
  (cond (okLn v1)
  (some ([.one (.int .i64 (vVec v1))], []))
  none)
  (cond (f == 9)
  (cond (!h1)
  (cond (!(noT bf1 bt1))
  (some ([.one (.int .i64 2)], []))
  (cond (okRows bf1 && okRows bt1)
  (some ([.one (.int .i64 (vCert bf1 bt1))], []))
  none))
  (cond (okRows bf1 && okRows bt1)
  (some ([.one (.int .i64 (vCert bf1 bt1))], []))
  none))
  (cond (f == 10)
  (cond (okRows ef1 && okRows et1)
  (some ([.one (.int .i64 (vCert ef1 et1))], []))
  none)
  (some ([.one (.int .i64 0)], []))))))))))) := by kernel_rfl

noncomputable def P8_0 : List AItem := F8.at [.snd, .snd, .snd, .snd, .fst, .snd, .sub, .head]

def M8_0 (t3 : List (List Cell)) (t27 : Int) (b0 : Int) (b0_1 : Int) (b0_2 : Int) (b0_3 : Int) (b0_4 : Int) (b0_5 : Int) (b0_6 : Int) (b0_7 : List (List Cell)) (b0_8 : List (List Cell)) (b0_9 : List (List Cell)) (b0_10 : List (List Cell)) (b0_11 : Bool) (b0_12 : List (List Cell)) (b0_13 : List (List Cell)) (b0_14 : List (List Cell)) (b0_15 : List (List Cell)) (b0_16 : List (List Cell)) (b0_17 : Bool) : St := ⟨[(1, .one (.ptr 0 0)), (3, .one (.sl false 54 t3)), (27, .one (.int .i64 t27))], [.var [.int .i64 b0, .int .i64 b0_1, .int .i64 b0_2, .int .i64 b0_3, .int .i64 b0_4, .int .i64 b0_5, .int .i64 b0_6, .sl false 93 b0_7, .sl false 93 b0_8, .sl false 93 b0_9, .sl false 93 b0_10, .bool b0_11, .sl false 93 b0_12, .sl false 93 b0_13, .sl false 93 b0_14, .sl false 96 b0_15, .sl false 103 b0_16, .bool b0_17]]⟩

noncomputable def P8_1 : List AItem := F8.at [.snd, .snd, .snd, .snd, .snd, .fst, .snd, .sub, .head]

def M8_1 (t41 : List (List Cell)) (t42 : Int) (t43 : Int) (b0 : Int) (b0_1 : Int) (b0_2 : Int) (b0_3 : Int) (b0_4 : Int) (b0_5 : Int) (b0_6 : Int) (b0_7 : List (List Cell)) (b0_8 : List (List Cell)) (b0_9 : List (List Cell)) (b0_10 : List (List Cell)) (b0_11 : Bool) (b0_12 : List (List Cell)) (b0_13 : List (List Cell)) (b0_14 : List (List Cell)) (b0_15 : List (List Cell)) (b0_16 : List (List Cell)) (b0_17 : Bool) : St := ⟨[(1, .one (.ptr 0 0)), (41, .one (.sl false 54 t41)), (42, .one (.int .i64 t42)), (43, .one (.int .i64 t43))], [.var [.int .i64 b0, .int .i64 b0_1, .int .i64 b0_2, .int .i64 b0_3, .int .i64 b0_4, .int .i64 b0_5, .int .i64 b0_6, .sl false 93 b0_7, .sl false 93 b0_8, .sl false 93 b0_9, .sl false 93 b0_10, .bool b0_11, .sl false 93 b0_12, .sl false 93 b0_13, .sl false 93 b0_14, .sl false 96 b0_15, .sl false 103 b0_16, .bool b0_17]]⟩

theorem e8 (m : Nat) (k1 f1 t1 p1 n1 r1 o1 : Int) (cf1 ct1 bf1 bt1 : List (List Cell)) (h1 : Bool) (ef1 et1 g1 u1 v1 : List (List Cell)) (m1 : Bool) : runF E (callOf L22) (m + 1) 8 [.agg [.int .i64 k1, .int .i64 f1, .int .i64 t1, .int .i64 p1, .int .i64 n1, .int .i64 r1, .int .i64 o1, .sl false 93 cf1, .sl false 93 ct1, .sl false 93 bf1, .sl false 93 bt1, .bool h1, .sl false 93 ef1, .sl false 93 et1, .sl false 93 g1, .sl false 96 u1, .sl false 103 v1, .bool m1]] [] =
  (cond (!((usedL k1).isSome))
  (some ([.one (.int .i64 10)], []))
  (cond (!(isProc f1))
  (some ([.one (.int .i64 9)], []))
  (cond (!(isProc t1))
  (some ([.one (.int .i64 9)], []))
  (goF E (callOf L22) F8 0 m P8_0 (M8_0 (usedR k1) 0 k1 f1 t1 p1 n1 r1 o1 cf1 ct1 bf1 bt1 h1 ef1 et1 g1 u1 v1 m1))))) := by kernel_rfl

theorem e8_0 (m : Nat) (t3 : List (List Cell)) (t27 b0 b0_1 b0_2 b0_3 b0_4 b0_5 b0_6 : Int) (b0_7 b0_8 b0_9 b0_10 : List (List Cell)) (b0_11 : Bool) (b0_12 b0_13 b0_14 b0_15 b0_16 : List (List Cell)) (b0_17 : Bool) : goF E (callOf L22) F8 0 (m + 1) P8_0 (M8_0 t3 t27 b0 b0_1 b0_2 b0_3 b0_4 b0_5 b0_6 b0_7 b0_8 b0_9 b0_10 b0_11 b0_12 b0_13 b0_14 b0_15 b0_16 b0_17) =
  (cond (decide (t27 < 11))
  (cond (decide (t3.length < 9223372036854775808))
  (cond (!(inF t3 t27))
  (cond (!(zeroW (Msg.mk b0 b0_1 b0_2 b0_3 b0_4 b0_5 b0_6 b0_7 b0_8 b0_9 b0_10 b0_11 b0_12 b0_13 b0_14 b0_15 b0_16 b0_17) t27))
  (some ([.one (.int .i64 2)], []))
  (goF E (callOf L22) F8 0 m P8_0 (M8_0 t3 (IntKind.wrap .i64 (t27 + 1)) b0 b0_1 b0_2 b0_3 b0_4 b0_5 b0_6 b0_7 b0_8 b0_9 b0_10 b0_11 b0_12 b0_13 b0_14 b0_15 b0_16 b0_17)))
  (goF E (callOf L22) F8 0 m P8_0 (M8_0 t3 (IntKind.wrap .i64 (t27 + 1)) b0 b0_1 b0_2 b0_3 b0_4 b0_5 b0_6 b0_7 b0_8 b0_9 b0_10 b0_11 b0_12 b0_13 b0_14 b0_15 b0_16 b0_17)))
  none)
  (goF E (callOf L22) F8 0 m P8_1 (M8_1 t3 (t3.length : Int) 0 b0 b0_1 b0_2 b0_3 b0_4 b0_5 b0_6 b0_7 b0_8 b0_9 b0_10 b0_11 b0_12 b0_13 b0_14 b0_15 b0_16 b0_17))) := by kernel_rfl

theorem e8_1 (m : Nat) (t41 : List (List Cell)) (t42 t43 b0 b0_1 b0_2 b0_3 b0_4 b0_5 b0_6 : Int) (b0_7 b0_8 b0_9 b0_10 : List (List Cell)) (b0_11 : Bool) (b0_12 b0_13 b0_14 b0_15 b0_16 : List (List Cell)) (b0_17 : Bool) : goF E (callOf L22) F8 0 (m + 1) P8_1 (M8_1 t41 t42 t43 b0 b0_1 b0_2 b0_3 b0_4 b0_5 b0_6 b0_7 b0_8 b0_9 b0_10 b0_11 b0_12 b0_13 b0_14 b0_15 b0_16 b0_17) =
  (cond (decide (t43 < t42))
  (cond (inB t43 t41.length)
  (cond (okM b0_7 b0_8 b0_9 b0_10 b0_12 b0_13 b0_14 b0_15 b0_16)
  (cond ((vFieldW (Msg.mk b0 b0_1 b0_2 b0_3 b0_4 b0_5 b0_6 b0_7 b0_8 b0_9 b0_10 b0_11 b0_12 b0_13 b0_14 b0_15 b0_16 b0_17) (nr (Abs.rowAt t41 (Int.toNat t43)) 0)) != 0)
  (some ([.one (.int .i64 (vFieldW (Msg.mk b0 b0_1 b0_2 b0_3 b0_4 b0_5 b0_6 b0_7 b0_8 b0_9 b0_10 b0_11 b0_12 b0_13 b0_14 b0_15 b0_16 b0_17) (nr (Abs.rowAt t41 (Int.toNat t43)) 0)))], []))
  (goF E (callOf L22) F8 0 m P8_1 (M8_1 t41 t42 (IntKind.wrap .i64 (t43 + 1)) b0 b0_1 b0_2 b0_3 b0_4 b0_5 b0_6 b0_7 b0_8 b0_9 b0_10 b0_11 b0_12 b0_13 b0_14 b0_15 b0_16 b0_17)))
  none)
  none)
  (some ([.one (.int .i64 0)], []))) := by kernel_rfl

theorem e68 (m : Nat) (k : Int) : runF E (callOf L8) (m + 1) 68 [.one (.int .i64 k)] [] =
  (cond (k == 1)
  (some ([.agg [.bool true, .bool true, .bool true, .bool true, .bool true, .bool false, .bool false, .bool false, .bool false]], []))
  (cond (k == 2)
  (some ([.agg [.bool true, .bool true, .bool false, .bool true, .bool true, .bool true, .bool false, .bool false, .bool false]], []))
  (cond (k == 4)
  (some ([.agg [.bool false, .bool false, .bool false, .bool false, .bool false, .bool false, .bool true, .bool true, .bool false]], []))
  (cond (k == 5)
  (some ([.agg [.bool false, .bool false, .bool false, .bool false, .bool true, .bool true, .bool true, .bool false, .bool true]], []))
  (some ([.agg [.bool false, .bool false, .bool false, .bool false, .bool false, .bool false, .bool true, .bool false, .bool false]], [])))))) := by kernel_rfl

noncomputable def P24_0 : List AItem := F24.at [.snd, .snd, .fst, .sub, .fst, .snd]

def M24_0 (t7 : Bool) (b0 : Int) (b0_1 : Int) (b0_2 : Int) (b0_3 : Int) (b0_4 : Int) (b0_5 : Int) (b0_6 : Int) (b0_7 : List (List Cell)) (b0_8 : List (List Cell)) (b0_9 : List (List Cell)) (b0_10 : List (List Cell)) (b0_11 : Bool) (b0_12 : List (List Cell)) (b0_13 : List (List Cell)) (b0_14 : List (List Cell)) (b0_15 : List (List Cell)) (b0_16 : List (List Cell)) (b0_17 : Bool) (b1 : Bool) (b1_1 : Bool) (b1_2 : Bool) (b1_3 : Bool) (b1_4 : Bool) (b1_5 : Bool) (b1_6 : Bool) (b1_7 : Bool) (b1_8 : Bool) : St := ⟨[(1, .one (.ptr 0 0)), (3, .one (.ptr 1 0)), (7, .one (.bool t7))], [.var [.int .i64 b0, .int .i64 b0_1, .int .i64 b0_2, .int .i64 b0_3, .int .i64 b0_4, .int .i64 b0_5, .int .i64 b0_6, .sl false 93 b0_7, .sl false 93 b0_8, .sl false 93 b0_9, .sl false 93 b0_10, .bool b0_11, .sl false 93 b0_12, .sl false 93 b0_13, .sl false 93 b0_14, .sl false 96 b0_15, .sl false 103 b0_16, .bool b0_17], .var [.bool b1, .bool b1_1, .bool b1_2, .bool b1_3, .bool b1_4, .bool b1_5, .bool b1_6, .bool b1_7, .bool b1_8]]⟩

noncomputable def P24_1 : List AItem := F24.at [.snd, .snd, .fst, .sub, .snd]

def M24_1 (t7 : Bool) (b0 : Int) (b0_1 : Int) (b0_2 : Int) (b0_3 : Int) (b0_4 : Int) (b0_5 : Int) (b0_6 : Int) (b0_7 : List (List Cell)) (b0_8 : List (List Cell)) (b0_9 : List (List Cell)) (b0_10 : List (List Cell)) (b0_11 : Bool) (b0_12 : List (List Cell)) (b0_13 : List (List Cell)) (b0_14 : List (List Cell)) (b0_15 : List (List Cell)) (b0_16 : List (List Cell)) (b0_17 : Bool) (b1 : Bool) (b1_1 : Bool) (b1_2 : Bool) (b1_3 : Bool) (b1_4 : Bool) (b1_5 : Bool) (b1_6 : Bool) (b1_7 : Bool) (b1_8 : Bool) : St := ⟨[(1, .one (.ptr 0 0)), (3, .one (.ptr 1 0)), (7, .one (.bool t7))], [.var [.int .i64 b0, .int .i64 b0_1, .int .i64 b0_2, .int .i64 b0_3, .int .i64 b0_4, .int .i64 b0_5, .int .i64 b0_6, .sl false 93 b0_7, .sl false 93 b0_8, .sl false 93 b0_9, .sl false 93 b0_10, .bool b0_11, .sl false 93 b0_12, .sl false 93 b0_13, .sl false 93 b0_14, .sl false 96 b0_15, .sl false 103 b0_16, .bool b0_17], .var [.bool b1, .bool b1_1, .bool b1_2, .bool b1_3, .bool b1_4, .bool b1_5, .bool b1_6, .bool b1_7, .bool b1_8]]⟩

noncomputable def P24_2 : List AItem := F24.at [.snd, .snd, .fst, .sub, .fst, .snd, .snd, .snd]

def M24_2 (t7 : Bool) (b0 : Int) (b0_1 : Int) (b0_2 : Int) (b0_3 : Int) (b0_4 : Int) (b0_5 : Int) (b0_6 : Int) (b0_7 : List (List Cell)) (b0_8 : List (List Cell)) (b0_9 : List (List Cell)) (b0_10 : List (List Cell)) (b0_11 : Bool) (b0_12 : List (List Cell)) (b0_13 : List (List Cell)) (b0_14 : List (List Cell)) (b0_15 : List (List Cell)) (b0_16 : List (List Cell)) (b0_17 : Bool) (b1 : Bool) (b1_1 : Bool) (b1_2 : Bool) (b1_3 : Bool) (b1_4 : Bool) (b1_5 : Bool) (b1_6 : Bool) (b1_7 : Bool) (b1_8 : Bool) : St := ⟨[(1, .one (.ptr 0 0)), (3, .one (.ptr 1 0)), (7, .one (.bool t7))], [.var [.int .i64 b0, .int .i64 b0_1, .int .i64 b0_2, .int .i64 b0_3, .int .i64 b0_4, .int .i64 b0_5, .int .i64 b0_6, .sl false 93 b0_7, .sl false 93 b0_8, .sl false 93 b0_9, .sl false 93 b0_10, .bool b0_11, .sl false 93 b0_12, .sl false 93 b0_13, .sl false 93 b0_14, .sl false 96 b0_15, .sl false 103 b0_16, .bool b0_17], .var [.bool b1, .bool b1_1, .bool b1_2, .bool b1_3, .bool b1_4, .bool b1_5, .bool b1_6, .bool b1_7, .bool b1_8]]⟩

noncomputable def P24_3 : List AItem := F24.at [.snd, .snd, .fst, .sub, .snd, .snd, .fst, .snd]

def M24_3 (t33 : Bool) (b0 : Int) (b0_1 : Int) (b0_2 : Int) (b0_3 : Int) (b0_4 : Int) (b0_5 : Int) (b0_6 : Int) (b0_7 : List (List Cell)) (b0_8 : List (List Cell)) (b0_9 : List (List Cell)) (b0_10 : List (List Cell)) (b0_11 : Bool) (b0_12 : List (List Cell)) (b0_13 : List (List Cell)) (b0_14 : List (List Cell)) (b0_15 : List (List Cell)) (b0_16 : List (List Cell)) (b0_17 : Bool) (b1 : Bool) (b1_1 : Bool) (b1_2 : Bool) (b1_3 : Bool) (b1_4 : Bool) (b1_5 : Bool) (b1_6 : Bool) (b1_7 : Bool) (b1_8 : Bool) : St := ⟨[(1, .one (.ptr 0 0)), (3, .one (.ptr 1 0)), (33, .one (.bool t33))], [.var [.int .i64 b0, .int .i64 b0_1, .int .i64 b0_2, .int .i64 b0_3, .int .i64 b0_4, .int .i64 b0_5, .int .i64 b0_6, .sl false 93 b0_7, .sl false 93 b0_8, .sl false 93 b0_9, .sl false 93 b0_10, .bool b0_11, .sl false 93 b0_12, .sl false 93 b0_13, .sl false 93 b0_14, .sl false 96 b0_15, .sl false 103 b0_16, .bool b0_17], .var [.bool b1, .bool b1_1, .bool b1_2, .bool b1_3, .bool b1_4, .bool b1_5, .bool b1_6, .bool b1_7, .bool b1_8]]⟩

noncomputable def P24_4 : List AItem := F24.at [.snd, .snd, .fst, .sub, .snd, .snd, .snd]

def M24_4 (t33 : Bool) (b0 : Int) (b0_1 : Int) (b0_2 : Int) (b0_3 : Int) (b0_4 : Int) (b0_5 : Int) (b0_6 : Int) (b0_7 : List (List Cell)) (b0_8 : List (List Cell)) (b0_9 : List (List Cell)) (b0_10 : List (List Cell)) (b0_11 : Bool) (b0_12 : List (List Cell)) (b0_13 : List (List Cell)) (b0_14 : List (List Cell)) (b0_15 : List (List Cell)) (b0_16 : List (List Cell)) (b0_17 : Bool) (b1 : Bool) (b1_1 : Bool) (b1_2 : Bool) (b1_3 : Bool) (b1_4 : Bool) (b1_5 : Bool) (b1_6 : Bool) (b1_7 : Bool) (b1_8 : Bool) : St := ⟨[(1, .one (.ptr 0 0)), (3, .one (.ptr 1 0)), (33, .one (.bool t33))], [.var [.int .i64 b0, .int .i64 b0_1, .int .i64 b0_2, .int .i64 b0_3, .int .i64 b0_4, .int .i64 b0_5, .int .i64 b0_6, .sl false 93 b0_7, .sl false 93 b0_8, .sl false 93 b0_9, .sl false 93 b0_10, .bool b0_11, .sl false 93 b0_12, .sl false 93 b0_13, .sl false 93 b0_14, .sl false 96 b0_15, .sl false 103 b0_16, .bool b0_17], .var [.bool b1, .bool b1_1, .bool b1_2, .bool b1_3, .bool b1_4, .bool b1_5, .bool b1_6, .bool b1_7, .bool b1_8]]⟩

noncomputable def P24_5 : List AItem := F24.at [.snd, .snd, .fst, .sub, .snd, .snd, .fst, .snd, .snd, .snd]

def M24_5 (t33 : Bool) (b0 : Int) (b0_1 : Int) (b0_2 : Int) (b0_3 : Int) (b0_4 : Int) (b0_5 : Int) (b0_6 : Int) (b0_7 : List (List Cell)) (b0_8 : List (List Cell)) (b0_9 : List (List Cell)) (b0_10 : List (List Cell)) (b0_11 : Bool) (b0_12 : List (List Cell)) (b0_13 : List (List Cell)) (b0_14 : List (List Cell)) (b0_15 : List (List Cell)) (b0_16 : List (List Cell)) (b0_17 : Bool) (b1 : Bool) (b1_1 : Bool) (b1_2 : Bool) (b1_3 : Bool) (b1_4 : Bool) (b1_5 : Bool) (b1_6 : Bool) (b1_7 : Bool) (b1_8 : Bool) : St := ⟨[(1, .one (.ptr 0 0)), (3, .one (.ptr 1 0)), (33, .one (.bool t33))], [.var [.int .i64 b0, .int .i64 b0_1, .int .i64 b0_2, .int .i64 b0_3, .int .i64 b0_4, .int .i64 b0_5, .int .i64 b0_6, .sl false 93 b0_7, .sl false 93 b0_8, .sl false 93 b0_9, .sl false 93 b0_10, .bool b0_11, .sl false 93 b0_12, .sl false 93 b0_13, .sl false 93 b0_14, .sl false 96 b0_15, .sl false 103 b0_16, .bool b0_17], .var [.bool b1, .bool b1_1, .bool b1_2, .bool b1_3, .bool b1_4, .bool b1_5, .bool b1_6, .bool b1_7, .bool b1_8]]⟩

noncomputable def P24_6 : List AItem := F24.at [.snd, .snd, .fst, .sub, .snd, .snd, .snd, .snd, .fst, .snd]

def M24_6 (t68 : Bool) (b0 : Int) (b0_1 : Int) (b0_2 : Int) (b0_3 : Int) (b0_4 : Int) (b0_5 : Int) (b0_6 : Int) (b0_7 : List (List Cell)) (b0_8 : List (List Cell)) (b0_9 : List (List Cell)) (b0_10 : List (List Cell)) (b0_11 : Bool) (b0_12 : List (List Cell)) (b0_13 : List (List Cell)) (b0_14 : List (List Cell)) (b0_15 : List (List Cell)) (b0_16 : List (List Cell)) (b0_17 : Bool) (b1 : Bool) (b1_1 : Bool) (b1_2 : Bool) (b1_3 : Bool) (b1_4 : Bool) (b1_5 : Bool) (b1_6 : Bool) (b1_7 : Bool) (b1_8 : Bool) : St := ⟨[(1, .one (.ptr 0 0)), (3, .one (.ptr 1 0)), (68, .one (.bool t68))], [.var [.int .i64 b0, .int .i64 b0_1, .int .i64 b0_2, .int .i64 b0_3, .int .i64 b0_4, .int .i64 b0_5, .int .i64 b0_6, .sl false 93 b0_7, .sl false 93 b0_8, .sl false 93 b0_9, .sl false 93 b0_10, .bool b0_11, .sl false 93 b0_12, .sl false 93 b0_13, .sl false 93 b0_14, .sl false 96 b0_15, .sl false 103 b0_16, .bool b0_17], .var [.bool b1, .bool b1_1, .bool b1_2, .bool b1_3, .bool b1_4, .bool b1_5, .bool b1_6, .bool b1_7, .bool b1_8]]⟩

noncomputable def P24_7 : List AItem := F24.at [.snd, .snd, .fst, .sub, .snd, .snd, .fst, .snd, .snd, .snd, .snd, .snd]

def M24_7 (t33 : Bool) (b0 : Int) (b0_1 : Int) (b0_2 : Int) (b0_3 : Int) (b0_4 : Int) (b0_5 : Int) (b0_6 : Int) (b0_7 : List (List Cell)) (b0_8 : List (List Cell)) (b0_9 : List (List Cell)) (b0_10 : List (List Cell)) (b0_11 : Bool) (b0_12 : List (List Cell)) (b0_13 : List (List Cell)) (b0_14 : List (List Cell)) (b0_15 : List (List Cell)) (b0_16 : List (List Cell)) (b0_17 : Bool) (b1 : Bool) (b1_1 : Bool) (b1_2 : Bool) (b1_3 : Bool) (b1_4 : Bool) (b1_5 : Bool) (b1_6 : Bool) (b1_7 : Bool) (b1_8 : Bool) : St := ⟨[(1, .one (.ptr 0 0)), (3, .one (.ptr 1 0)), (33, .one (.bool t33))], [.var [.int .i64 b0, .int .i64 b0_1, .int .i64 b0_2, .int .i64 b0_3, .int .i64 b0_4, .int .i64 b0_5, .int .i64 b0_6, .sl false 93 b0_7, .sl false 93 b0_8, .sl false 93 b0_9, .sl false 93 b0_10, .bool b0_11, .sl false 93 b0_12, .sl false 93 b0_13, .sl false 93 b0_14, .sl false 96 b0_15, .sl false 103 b0_16, .bool b0_17], .var [.bool b1, .bool b1_1, .bool b1_2, .bool b1_3, .bool b1_4, .bool b1_5, .bool b1_6, .bool b1_7, .bool b1_8]]⟩

noncomputable def P24_8 : List AItem := F24.at [.snd, .snd, .fst, .sub, .snd, .snd, .snd, .snd, .snd]

def M24_8 (t68 : Bool) : St := ⟨[(68, .one (.bool t68))], []⟩

noncomputable def P24_9 : List AItem := F24.at [.snd, .snd, .snd]

def M24_9  : St := ⟨[], []⟩

theorem e24 (m : Nat) (k1 f1 t1 p1 n1 r1 o1 : Int) (cf1 ct1 bf1 bt1 : List (List Cell)) (h1 : Bool) (ef1 et1 g1 u1 v1 : List (List Cell)) (m1 : Bool) : runF E (callOf L68) (m + 1) 24 [.agg [.int .i64 k1, .int .i64 f1, .int .i64 t1, .int .i64 p1, .int .i64 n1, .int .i64 r1, .int .i64 o1, .sl false 93 cf1, .sl false 93 ct1, .sl false 93 bf1, .sl false 93 bt1, .bool h1, .sl false 93 ef1, .sl false 93 et1, .sl false 93 g1, .sl false 96 u1, .sl false 103 v1, .bool m1]] [] =
  (cond (!(uA k1))
  (goF E (callOf L68) F24 0 m P24_0 (M24_0 (!((p1 == 0) && ((n1 == 0) && true))) k1 f1 t1 p1 n1 r1 o1 cf1 ct1 bf1 bt1 h1 ef1 et1 g1 u1 v1 m1 (uA k1) (uA k1) (k1 == 1) (uA k1) (uS k1) (uB k1) (!(uA k1)) (k1 == 4) (k1 == 5)))
  (goF E (callOf L68) F24 0 m P24_0 (M24_0 false k1 f1 t1 p1 n1 r1 o1 cf1 ct1 bf1 bt1 h1 ef1 et1 g1 u1 v1 m1 (uA k1) (uA k1) (k1 == 1) (uA k1) (uS k1) (uB k1) (!(uA k1)) (k1 == 4) (k1 == 5)))) := by kernel_rfl

theorem e24_0 (m : Nat) (t7 : Bool) (b0 b0_1 b0_2 b0_3 b0_4 b0_5 b0_6 : Int) (b0_7 b0_8 b0_9 b0_10 : List (List Cell)) (b0_11 : Bool) (b0_12 b0_13 b0_14 b0_15 b0_16 : List (List Cell)) (b0_17 b1 b1_1 b1_2 b1_3 b1_4 b1_5 b1_6 b1_7 b1_8 : Bool) : goF E (callOf L68) F24 0 (m + 1) P24_0 (M24_0 t7 b0 b0_1 b0_2 b0_3 b0_4 b0_5 b0_6 b0_7 b0_8 b0_9 b0_10 b0_11 b0_12 b0_13 b0_14 b0_15 b0_16 b0_17 b1 b1_1 b1_2 b1_3 b1_4 b1_5 b1_6 b1_7 b1_8) =
  (cond t7
  (goF E (callOf L68) F24 0 m P24_1 (M24_1 t7 b0 b0_1 b0_2 b0_3 b0_4 b0_5 b0_6 b0_7 b0_8 b0_9 b0_10 b0_11 b0_12 b0_13 b0_14 b0_15 b0_16 b0_17 b1 b1_1 b1_2 b1_3 b1_4 b1_5 b1_6 b1_7 b1_8))
  (cond (!b1_1)
  (goF E (callOf L68) F24 0 m P24_2 (M24_2 (b0_5 != 0) b0 b0_1 b0_2 b0_3 b0_4 b0_5 b0_6 b0_7 b0_8 b0_9 b0_10 b0_11 b0_12 b0_13 b0_14 b0_15 b0_16 b0_17 b1 b1_1 b1_2 b1_3 b1_4 b1_5 b1_6 b1_7 b1_8))
  (goF E (callOf L68) F24 0 m P24_2 (M24_2 false b0 b0_1 b0_2 b0_3 b0_4 b0_5 b0_6 b0_7 b0_8 b0_9 b0_10 b0_11 b0_12 b0_13 b0_14 b0_15 b0_16 b0_17 b1 b1_1 b1_2 b1_3 b1_4 b1_5 b1_6 b1_7 b1_8)))) := by kernel_rfl

theorem e24_1 (m : Nat) (t7 : Bool) (b0 b0_1 b0_2 b0_3 b0_4 b0_5 b0_6 : Int) (b0_7 b0_8 b0_9 b0_10 : List (List Cell)) (b0_11 : Bool) (b0_12 b0_13 b0_14 b0_15 b0_16 : List (List Cell)) (b0_17 b1 b1_1 b1_2 b1_3 b1_4 b1_5 b1_6 b1_7 b1_8 : Bool) : goF E (callOf L68) F24 0 (m + 1) P24_1 (M24_1 t7 b0 b0_1 b0_2 b0_3 b0_4 b0_5 b0_6 b0_7 b0_8 b0_9 b0_10 b0_11 b0_12 b0_13 b0_14 b0_15 b0_16 b0_17 b1 b1_1 b1_2 b1_3 b1_4 b1_5 b1_6 b1_7 b1_8) =
  (cond t7
  (some ([.one (.bool false)], []))
  (cond (!b1_3)
  (goF E (callOf L68) F24 0 m P24_3 (M24_3 (decide ((b0_14.length : Int) > 0)) b0 b0_1 b0_2 b0_3 b0_4 b0_5 b0_6 b0_7 b0_8 b0_9 b0_10 b0_11 b0_12 b0_13 b0_14 b0_15 b0_16 b0_17 b1 b1_1 b1_2 b1_3 b1_4 b1_5 b1_6 b1_7 b1_8))
  (goF E (callOf L68) F24 0 m P24_3 (M24_3 false b0 b0_1 b0_2 b0_3 b0_4 b0_5 b0_6 b0_7 b0_8 b0_9 b0_10 b0_11 b0_12 b0_13 b0_14 b0_15 b0_16 b0_17 b1 b1_1 b1_2 b1_3 b1_4 b1_5 b1_6 b1_7 b1_8)))) := by kernel_rfl

theorem e24_2 (m : Nat) (t7 : Bool) (b0 b0_1 b0_2 b0_3 b0_4 b0_5 b0_6 : Int) (b0_7 b0_8 b0_9 b0_10 : List (List Cell)) (b0_11 : Bool) (b0_12 b0_13 b0_14 b0_15 b0_16 : List (List Cell)) (b0_17 b1 b1_1 b1_2 b1_3 b1_4 b1_5 b1_6 b1_7 b1_8 : Bool) : goF E (callOf L68) F24 0 (m + 1) P24_2 (M24_2 t7 b0 b0_1 b0_2 b0_3 b0_4 b0_5 b0_6 b0_7 b0_8 b0_9 b0_10 b0_11 b0_12 b0_13 b0_14 b0_15 b0_16 b0_17 b1 b1_1 b1_2 b1_3 b1_4 b1_5 b1_6 b1_7 b1_8) =
  (cond t7
  (goF E (callOf L68) F24 0 m P24_1 (M24_1 t7 b0 b0_1 b0_2 b0_3 b0_4 b0_5 b0_6 b0_7 b0_8 b0_9 b0_10 b0_11 b0_12 b0_13 b0_14 b0_15 b0_16 b0_17 b1 b1_1 b1_2 b1_3 b1_4 b1_5 b1_6 b1_7 b1_8))
  (cond (!b1_2)
  (goF E (callOf L68) F24 0 m P24_1 (M24_1 (b0_6 != 0) b0 b0_1 b0_2 b0_3 b0_4 b0_5 b0_6 b0_7 b0_8 b0_9 b0_10 b0_11 b0_12 b0_13 b0_14 b0_15 b0_16 b0_17 b1 b1_1 b1_2 b1_3 b1_4 b1_5 b1_6 b1_7 b1_8))
  (goF E (callOf L68) F24 0 m P24_1 (M24_1 false b0 b0_1 b0_2 b0_3 b0_4 b0_5 b0_6 b0_7 b0_8 b0_9 b0_10 b0_11 b0_12 b0_13 b0_14 b0_15 b0_16 b0_17 b1 b1_1 b1_2 b1_3 b1_4 b1_5 b1_6 b1_7 b1_8)))) := by kernel_rfl

theorem e24_3 (m : Nat) (t33 : Bool) (b0 b0_1 b0_2 b0_3 b0_4 b0_5 b0_6 : Int) (b0_7 b0_8 b0_9 b0_10 : List (List Cell)) (b0_11 : Bool) (b0_12 b0_13 b0_14 b0_15 b0_16 : List (List Cell)) (b0_17 b1 b1_1 b1_2 b1_3 b1_4 b1_5 b1_6 b1_7 b1_8 : Bool) : goF E (callOf L68) F24 0 (m + 1) P24_3 (M24_3 t33 b0 b0_1 b0_2 b0_3 b0_4 b0_5 b0_6 b0_7 b0_8 b0_9 b0_10 b0_11 b0_12 b0_13 b0_14 b0_15 b0_16 b0_17 b1 b1_1 b1_2 b1_3 b1_4 b1_5 b1_6 b1_7 b1_8) =
  (cond t33
  (goF E (callOf L68) F24 0 m P24_4 (M24_4 t33 b0 b0_1 b0_2 b0_3 b0_4 b0_5 b0_6 b0_7 b0_8 b0_9 b0_10 b0_11 b0_12 b0_13 b0_14 b0_15 b0_16 b0_17 b1 b1_1 b1_2 b1_3 b1_4 b1_5 b1_6 b1_7 b1_8))
  (cond (!b1_4)
  (goF E (callOf L68) F24 0 m P24_5 (M24_5 (decide ((b0_15.length : Int) > 0)) b0 b0_1 b0_2 b0_3 b0_4 b0_5 b0_6 b0_7 b0_8 b0_9 b0_10 b0_11 b0_12 b0_13 b0_14 b0_15 b0_16 b0_17 b1 b1_1 b1_2 b1_3 b1_4 b1_5 b1_6 b1_7 b1_8))
  (goF E (callOf L68) F24 0 m P24_5 (M24_5 false b0 b0_1 b0_2 b0_3 b0_4 b0_5 b0_6 b0_7 b0_8 b0_9 b0_10 b0_11 b0_12 b0_13 b0_14 b0_15 b0_16 b0_17 b1 b1_1 b1_2 b1_3 b1_4 b1_5 b1_6 b1_7 b1_8)))) := by kernel_rfl

theorem e24_4 (m : Nat) (t33 : Bool) (b0 b0_1 b0_2 b0_3 b0_4 b0_5 b0_6 : Int) (b0_7 b0_8 b0_9 b0_10 : List (List Cell)) (b0_11 : Bool) (b0_12 b0_13 b0_14 b0_15 b0_16 : List (List Cell)) (b0_17 b1 b1_1 b1_2 b1_3 b1_4 b1_5 b1_6 b1_7 b1_8 : Bool) : goF E (callOf L68) F24 0 (m + 1) P24_4 (M24_4 t33 b0 b0_1 b0_2 b0_3 b0_4 b0_5 b0_6 b0_7 b0_8 b0_9 b0_10 b0_11 b0_12 b0_13 b0_14 b0_15 b0_16 b0_17 b1 b1_1 b1_2 b1_3 b1_4 b1_5 b1_6 b1_7 b1_8) =
  (cond t33
  (some ([.one (.bool false)], []))
  (cond (!b1_5)
  (cond b0_11
  (goF E (callOf L68) F24 0 m P24_6 (M24_6 true b0 b0_1 b0_2 b0_3 b0_4 b0_5 b0_6 b0_7 b0_8 b0_9 b0_10 b0_11 b0_12 b0_13 b0_14 b0_15 b0_16 b0_17 b1 b1_1 b1_2 b1_3 b1_4 b1_5 b1_6 b1_7 b1_8))
  (cond (!(noT b0_9 b0_10))
  (goF E (callOf L68) F24 0 m P24_6 (M24_6 true b0 b0_1 b0_2 b0_3 b0_4 b0_5 b0_6 b0_7 b0_8 b0_9 b0_10 b0_11 b0_12 b0_13 b0_14 b0_15 b0_16 b0_17 b1 b1_1 b1_2 b1_3 b1_4 b1_5 b1_6 b1_7 b1_8))
  (goF E (callOf L68) F24 0 m P24_6 (M24_6 (!(noT b0_12 b0_13)) b0 b0_1 b0_2 b0_3 b0_4 b0_5 b0_6 b0_7 b0_8 b0_9 b0_10 b0_11 b0_12 b0_13 b0_14 b0_15 b0_16 b0_17 b1 b1_1 b1_2 b1_3 b1_4 b1_5 b1_6 b1_7 b1_8))))
  (goF E (callOf L68) F24 0 m P24_6 (M24_6 false b0 b0_1 b0_2 b0_3 b0_4 b0_5 b0_6 b0_7 b0_8 b0_9 b0_10 b0_11 b0_12 b0_13 b0_14 b0_15 b0_16 b0_17 b1 b1_1 b1_2 b1_3 b1_4 b1_5 b1_6 b1_7 b1_8)))) := by kernel_rfl

theorem e24_5 (m : Nat) (t33 : Bool) (b0 b0_1 b0_2 b0_3 b0_4 b0_5 b0_6 : Int) (b0_7 b0_8 b0_9 b0_10 : List (List Cell)) (b0_11 : Bool) (b0_12 b0_13 b0_14 b0_15 b0_16 : List (List Cell)) (b0_17 b1 b1_1 b1_2 b1_3 b1_4 b1_5 b1_6 b1_7 b1_8 : Bool) : goF E (callOf L68) F24 0 (m + 1) P24_5 (M24_5 t33 b0 b0_1 b0_2 b0_3 b0_4 b0_5 b0_6 b0_7 b0_8 b0_9 b0_10 b0_11 b0_12 b0_13 b0_14 b0_15 b0_16 b0_17 b1 b1_1 b1_2 b1_3 b1_4 b1_5 b1_6 b1_7 b1_8) =
  (cond t33
  (goF E (callOf L68) F24 0 m P24_4 (M24_4 t33 b0 b0_1 b0_2 b0_3 b0_4 b0_5 b0_6 b0_7 b0_8 b0_9 b0_10 b0_11 b0_12 b0_13 b0_14 b0_15 b0_16 b0_17 b1 b1_1 b1_2 b1_3 b1_4 b1_5 b1_6 b1_7 b1_8))
  (cond (!b1_7)
  (goF E (callOf L68) F24 0 m P24_7 (M24_7 (decide ((b0_16.length : Int) > 0)) b0 b0_1 b0_2 b0_3 b0_4 b0_5 b0_6 b0_7 b0_8 b0_9 b0_10 b0_11 b0_12 b0_13 b0_14 b0_15 b0_16 b0_17 b1 b1_1 b1_2 b1_3 b1_4 b1_5 b1_6 b1_7 b1_8))
  (goF E (callOf L68) F24 0 m P24_7 (M24_7 false b0 b0_1 b0_2 b0_3 b0_4 b0_5 b0_6 b0_7 b0_8 b0_9 b0_10 b0_11 b0_12 b0_13 b0_14 b0_15 b0_16 b0_17 b1 b1_1 b1_2 b1_3 b1_4 b1_5 b1_6 b1_7 b1_8)))) := by kernel_rfl

theorem e24_6 (m : Nat) (t68 : Bool) (b0 b0_1 b0_2 b0_3 b0_4 b0_5 b0_6 : Int) (b0_7 b0_8 b0_9 b0_10 : List (List Cell)) (b0_11 : Bool) (b0_12 b0_13 b0_14 b0_15 b0_16 : List (List Cell)) (b0_17 b1 b1_1 b1_2 b1_3 b1_4 b1_5 b1_6 b1_7 b1_8 : Bool) : goF E (callOf L68) F24 0 (m + 1) P24_6 (M24_6 t68 b0 b0_1 b0_2 b0_3 b0_4 b0_5 b0_6 b0_7 b0_8 b0_9 b0_10 b0_11 b0_12 b0_13 b0_14 b0_15 b0_16 b0_17 b1 b1_1 b1_2 b1_3 b1_4 b1_5 b1_6 b1_7 b1_8) =
  (cond t68
  (goF E (callOf L68) F24 0 m P24_8 (M24_8 t68))
  (cond (!b1_6)
  (goF E (callOf L68) F24 0 m P24_8 (M24_8 (!(noT b0_7 b0_8))))
  (goF E (callOf L68) F24 0 m P24_8 (M24_8 false)))) := by kernel_rfl

theorem e24_7 (m : Nat) (t33 : Bool) (b0 b0_1 b0_2 b0_3 b0_4 b0_5 b0_6 : Int) (b0_7 b0_8 b0_9 b0_10 : List (List Cell)) (b0_11 : Bool) (b0_12 b0_13 b0_14 b0_15 b0_16 : List (List Cell)) (b0_17 b1 b1_1 b1_2 b1_3 b1_4 b1_5 b1_6 b1_7 b1_8 : Bool) : goF E (callOf L68) F24 0 (m + 1) P24_7 (M24_7 t33 b0 b0_1 b0_2 b0_3 b0_4 b0_5 b0_6 b0_7 b0_8 b0_9 b0_10 b0_11 b0_12 b0_13 b0_14 b0_15 b0_16 b0_17 b1 b1_1 b1_2 b1_3 b1_4 b1_5 b1_6 b1_7 b1_8) =
  (cond t33
  (goF E (callOf L68) F24 0 m P24_4 (M24_4 t33 b0 b0_1 b0_2 b0_3 b0_4 b0_5 b0_6 b0_7 b0_8 b0_9 b0_10 b0_11 b0_12 b0_13 b0_14 b0_15 b0_16 b0_17 b1 b1_1 b1_2 b1_3 b1_4 b1_5 b1_6 b1_7 b1_8))
  (cond (!b1_8)
  (goF E (callOf L68) F24 0 m P24_4 (M24_4 b0_17 b0 b0_1 b0_2 b0_3 b0_4 b0_5 b0_6 b0_7 b0_8 b0_9 b0_10 b0_11 b0_12 b0_13 b0_14 b0_15 b0_16 b0_17 b1 b1_1 b1_2 b1_3 b1_4 b1_5 b1_6 b1_7 b1_8))
  (goF E (callOf L68) F24 0 m P24_4 (M24_4 false b0 b0_1 b0_2 b0_3 b0_4 b0_5 b0_6 b0_7 b0_8 b0_9 b0_10 b0_11 b0_12 b0_13 b0_14 b0_15 b0_16 b0_17 b1 b1_1 b1_2 b1_3 b1_4 b1_5 b1_6 b1_7 b1_8)))) := by kernel_rfl

theorem e24_8 (m : Nat) (t68 : Bool) : goF E (callOf L68) F24 0 (m + 1) P24_8 (M24_8 t68) =
  (cond t68
  (some ([.one (.bool false)], []))
  (goF E (callOf L68) F24 0 m P24_9 (M24_9 ))) := by kernel_rfl

theorem e24_9 (m : Nat)  : goF E (callOf L68) F24 0 (m + 1) P24_9 (M24_9 ) =
  (some ([.one (.bool true)], [])) := by kernel_rfl

theorem e29 (m : Nat) (k1 f1 t1 p1 n1 r1 o1 : Int) (cf1 ct1 bf1 bt1 : List (List Cell)) (h1 : Bool) (ef1 et1 g1 u1 v1 : List (List Cell)) (m1 : Bool) : runF E (callOf L24) (m + 1) 29 [.agg [.int .i64 k1, .int .i64 f1, .int .i64 t1, .int .i64 p1, .int .i64 n1, .int .i64 r1, .int .i64 o1, .sl false 93 cf1, .sl false 93 ct1, .sl false 93 bf1, .sl false 93 bt1, .bool h1, .sl false 93 ef1, .sl false 93 et1, .sl false 93 g1, .sl false 96 u1, .sl false 103 v1, .bool m1]] [] =
  (cond (!h1)
  (cond (!(noT bf1 bt1))
  (some ([.one (.int .i64 2)], []))
  (cond (okRows bf1 && okRows bt1)
  (cond ((vCert bf1 bt1) != 0)
  (cond (okRows bf1 && okRows bt1)
  (some ([.one (.int .i64 (vCert bf1 bt1))], []))
  none)
  (cond (okRows ef1 && okRows et1)
  (some ([.one (.int .i64 (vCert ef1 et1))], []))
  none))
  none))
  (cond (okRows bf1 && okRows bt1)
  (cond ((vCert bf1 bt1) != 0)
  (cond (okRows bf1 && okRows bt1)
  (some ([.one (.int .i64 (vCert bf1 bt1))], []))
  none)
  (cond (okRows ef1 && okRows et1)
  (some ([.one (.int .i64 (vCert ef1 et1))], []))
  none))
  none)) := by kernel_rfl

noncomputable def P25_0 : List AItem := F25.at [.snd, .fst, .sub, .snd]

def M25_0 (t3 : Bool) (b0 : Int) (b0_1 : Int) (b0_2 : Int) (b0_3 : Int) (b0_4 : Int) (b0_5 : Int) (b0_6 : Int) (b0_7 : List (List Cell)) (b0_8 : List (List Cell)) (b0_9 : List (List Cell)) (b0_10 : List (List Cell)) (b0_11 : Bool) (b0_12 : List (List Cell)) (b0_13 : List (List Cell)) (b0_14 : List (List Cell)) (b0_15 : List (List Cell)) (b0_16 : List (List Cell)) (b0_17 : Bool) : St := ⟨[(1, .one (.ptr 0 0)), (3, .one (.bool t3))], [.var [.int .i64 b0, .int .i64 b0_1, .int .i64 b0_2, .int .i64 b0_3, .int .i64 b0_4, .int .i64 b0_5, .int .i64 b0_6, .sl false 93 b0_7, .sl false 93 b0_8, .sl false 93 b0_9, .sl false 93 b0_10, .bool b0_11, .sl false 93 b0_12, .sl false 93 b0_13, .sl false 93 b0_14, .sl false 96 b0_15, .sl false 103 b0_16, .bool b0_17]]⟩

noncomputable def P25_1 : List AItem := F25.at [.snd, .fst, .sub, .snd, .snd, .snd]

def M25_1 (t28 : Bool) (b0 : Int) (b0_1 : Int) (b0_2 : Int) (b0_3 : Int) (b0_4 : Int) (b0_5 : Int) (b0_6 : Int) (b0_7 : List (List Cell)) (b0_8 : List (List Cell)) (b0_9 : List (List Cell)) (b0_10 : List (List Cell)) (b0_11 : Bool) (b0_12 : List (List Cell)) (b0_13 : List (List Cell)) (b0_14 : List (List Cell)) (b0_15 : List (List Cell)) (b0_16 : List (List Cell)) (b0_17 : Bool) : St := ⟨[(1, .one (.ptr 0 0)), (28, .one (.bool t28))], [.var [.int .i64 b0, .int .i64 b0_1, .int .i64 b0_2, .int .i64 b0_3, .int .i64 b0_4, .int .i64 b0_5, .int .i64 b0_6, .sl false 93 b0_7, .sl false 93 b0_8, .sl false 93 b0_9, .sl false 93 b0_10, .bool b0_11, .sl false 93 b0_12, .sl false 93 b0_13, .sl false 93 b0_14, .sl false 96 b0_15, .sl false 103 b0_16, .bool b0_17]]⟩

noncomputable def P25_2 : List AItem := F25.at [.snd, .fst, .sub, .snd, .snd, .snd, .snd, .snd]

def M25_2 (t37 : Bool) (b0 : Int) (b0_1 : Int) (b0_2 : Int) (b0_3 : Int) (b0_4 : Int) (b0_5 : Int) (b0_6 : Int) (b0_7 : List (List Cell)) (b0_8 : List (List Cell)) (b0_9 : List (List Cell)) (b0_10 : List (List Cell)) (b0_11 : Bool) (b0_12 : List (List Cell)) (b0_13 : List (List Cell)) (b0_14 : List (List Cell)) (b0_15 : List (List Cell)) (b0_16 : List (List Cell)) (b0_17 : Bool) : St := ⟨[(1, .one (.ptr 0 0)), (37, .one (.bool t37))], [.var [.int .i64 b0, .int .i64 b0_1, .int .i64 b0_2, .int .i64 b0_3, .int .i64 b0_4, .int .i64 b0_5, .int .i64 b0_6, .sl false 93 b0_7, .sl false 93 b0_8, .sl false 93 b0_9, .sl false 93 b0_10, .bool b0_11, .sl false 93 b0_12, .sl false 93 b0_13, .sl false 93 b0_14, .sl false 96 b0_15, .sl false 103 b0_16, .bool b0_17]]⟩

noncomputable def P25_3 : List AItem := F25.at [.snd, .fst, .sub, .snd, .snd, .snd, .snd, .snd, .snd, .snd, .snd, .snd, .snd, .snd]

def M25_3 (t67 : Bool) (b0 : Int) (b0_1 : Int) (b0_2 : Int) (b0_3 : Int) (b0_4 : Int) (b0_5 : Int) (b0_6 : Int) (b0_7 : List (List Cell)) (b0_8 : List (List Cell)) (b0_9 : List (List Cell)) (b0_10 : List (List Cell)) (b0_11 : Bool) (b0_12 : List (List Cell)) (b0_13 : List (List Cell)) (b0_14 : List (List Cell)) (b0_15 : List (List Cell)) (b0_16 : List (List Cell)) (b0_17 : Bool) : St := ⟨[(1, .one (.ptr 0 0)), (67, .one (.bool t67))], [.var [.int .i64 b0, .int .i64 b0_1, .int .i64 b0_2, .int .i64 b0_3, .int .i64 b0_4, .int .i64 b0_5, .int .i64 b0_6, .sl false 93 b0_7, .sl false 93 b0_8, .sl false 93 b0_9, .sl false 93 b0_10, .bool b0_11, .sl false 93 b0_12, .sl false 93 b0_13, .sl false 93 b0_14, .sl false 96 b0_15, .sl false 103 b0_16, .bool b0_17]]⟩

noncomputable def P25_4 : List AItem := F25.at [.snd, .snd]

def M25_4  : St := ⟨[], []⟩

theorem e25 (m : Nat) (k1 f1 t1 p1 n1 r1 o1 : Int) (cf1 ct1 bf1 bt1 : List (List Cell)) (h1 : Bool) (ef1 et1 g1 u1 v1 : List (List Cell)) (m1 : Bool) : runF E (callOf L29) (m + 1) 25 [.agg [.int .i64 k1, .int .i64 f1, .int .i64 t1, .int .i64 p1, .int .i64 n1, .int .i64 r1, .int .i64 o1, .sl false 93 cf1, .sl false 93 ct1, .sl false 93 bf1, .sl false 93 bt1, .bool h1, .sl false 93 ef1, .sl false 93 et1, .sl false 93 g1, .sl false 96 u1, .sl false 103 v1, .bool m1]] [] =
  (cond (!(isClient p1))
  (cond (!(isAdmin p1))
  (goF E (callOf L29) F25 0 m P25_0 (M25_0 true k1 f1 t1 p1 n1 r1 o1 cf1 ct1 bf1 bt1 h1 ef1 et1 g1 u1 v1 m1))
  (cond (decide (n1 < 1))
  (goF E (callOf L29) F25 0 m P25_0 (M25_0 true k1 f1 t1 p1 n1 r1 o1 cf1 ct1 bf1 bt1 h1 ef1 et1 g1 u1 v1 m1))
  (goF E (callOf L29) F25 0 m P25_0 (M25_0 (decide (n1 > 1000000)) k1 f1 t1 p1 n1 r1 o1 cf1 ct1 bf1 bt1 h1 ef1 et1 g1 u1 v1 m1))))
  (cond (decide (n1 < 1))
  (goF E (callOf L29) F25 0 m P25_0 (M25_0 true k1 f1 t1 p1 n1 r1 o1 cf1 ct1 bf1 bt1 h1 ef1 et1 g1 u1 v1 m1))
  (goF E (callOf L29) F25 0 m P25_0 (M25_0 (decide (n1 > 1000000)) k1 f1 t1 p1 n1 r1 o1 cf1 ct1 bf1 bt1 h1 ef1 et1 g1 u1 v1 m1)))) := by kernel_rfl

theorem e25_0 (m : Nat) (t3 : Bool) (b0 b0_1 b0_2 b0_3 b0_4 b0_5 b0_6 : Int) (b0_7 b0_8 b0_9 b0_10 : List (List Cell)) (b0_11 : Bool) (b0_12 b0_13 b0_14 b0_15 b0_16 : List (List Cell)) (b0_17 : Bool) : goF E (callOf L29) F25 0 (m + 1) P25_0 (M25_0 t3 b0 b0_1 b0_2 b0_3 b0_4 b0_5 b0_6 b0_7 b0_8 b0_9 b0_10 b0_11 b0_12 b0_13 b0_14 b0_15 b0_16 b0_17) =
  (cond t3
  (some ([.one (.int .i64 9)], []))
  (cond (decide (b0_5 < 1))
  (goF E (callOf L29) F25 0 m P25_1 (M25_1 true b0 b0_1 b0_2 b0_3 b0_4 b0_5 b0_6 b0_7 b0_8 b0_9 b0_10 b0_11 b0_12 b0_13 b0_14 b0_15 b0_16 b0_17))
  (goF E (callOf L29) F25 0 m P25_1 (M25_1 (decide (b0_5 > 1000000)) b0 b0_1 b0_2 b0_3 b0_4 b0_5 b0_6 b0_7 b0_8 b0_9 b0_10 b0_11 b0_12 b0_13 b0_14 b0_15 b0_16 b0_17)))) := by kernel_rfl

theorem e25_1 (m : Nat) (t28 : Bool) (b0 b0_1 b0_2 b0_3 b0_4 b0_5 b0_6 : Int) (b0_7 b0_8 b0_9 b0_10 : List (List Cell)) (b0_11 : Bool) (b0_12 b0_13 b0_14 b0_15 b0_16 : List (List Cell)) (b0_17 : Bool) : goF E (callOf L29) F25 0 (m + 1) P25_1 (M25_1 t28 b0 b0_1 b0_2 b0_3 b0_4 b0_5 b0_6 b0_7 b0_8 b0_9 b0_10 b0_11 b0_12 b0_13 b0_14 b0_15 b0_16 b0_17) =
  (cond t28
  (some ([.one (.int .i64 9)], []))
  (cond (b0 == 1)
  (cond (decide (b0_6 < 1))
  (goF E (callOf L29) F25 0 m P25_2 (M25_2 true b0 b0_1 b0_2 b0_3 b0_4 b0_5 b0_6 b0_7 b0_8 b0_9 b0_10 b0_11 b0_12 b0_13 b0_14 b0_15 b0_16 b0_17))
  (goF E (callOf L29) F25 0 m P25_2 (M25_2 (decide (b0_6 > 3)) b0 b0_1 b0_2 b0_3 b0_4 b0_5 b0_6 b0_7 b0_8 b0_9 b0_10 b0_11 b0_12 b0_13 b0_14 b0_15 b0_16 b0_17)))
  (goF E (callOf L29) F25 0 m P25_2 (M25_2 false b0 b0_1 b0_2 b0_3 b0_4 b0_5 b0_6 b0_7 b0_8 b0_9 b0_10 b0_11 b0_12 b0_13 b0_14 b0_15 b0_16 b0_17)))) := by kernel_rfl

theorem e25_2 (m : Nat) (t37 : Bool) (b0 b0_1 b0_2 b0_3 b0_4 b0_5 b0_6 : Int) (b0_7 b0_8 b0_9 b0_10 : List (List Cell)) (b0_11 : Bool) (b0_12 b0_13 b0_14 b0_15 b0_16 : List (List Cell)) (b0_17 : Bool) : goF E (callOf L29) F25 0 (m + 1) P25_2 (M25_2 t37 b0 b0_1 b0_2 b0_3 b0_4 b0_5 b0_6 b0_7 b0_8 b0_9 b0_10 b0_11 b0_12 b0_13 b0_14 b0_15 b0_16 b0_17) =
  (cond t37
  (some ([.one (.int .i64 10)], []))
  (cond (okRows b0_14)
  (cond ((vCfg b0_14) != 0)
  (cond (okRows b0_14)
  (some ([.one (.int .i64 (vCfg b0_14))], []))
  none)
  (cond (okLn b0_15)
  (cond ((vSt b0_15) != 0)
  (cond (okLn b0_15)
  (some ([.one (.int .i64 (vSt b0_15))], []))
  none)
  (cond (b0_6 == 1)
  (goF E (callOf L29) F25 0 m P25_3 (M25_3 (decide ((b0_15.length : Int) > 0)) b0 b0_1 b0_2 b0_3 b0_4 b0_5 b0_6 b0_7 b0_8 b0_9 b0_10 b0_11 b0_12 b0_13 b0_14 b0_15 b0_16 b0_17))
  (goF E (callOf L29) F25 0 m P25_3 (M25_3 false b0 b0_1 b0_2 b0_3 b0_4 b0_5 b0_6 b0_7 b0_8 b0_9 b0_10 b0_11 b0_12 b0_13 b0_14 b0_15 b0_16 b0_17))))
  none))
  none)) := by kernel_rfl

theorem e25_3 (m : Nat) (t67 : Bool) (b0 b0_1 b0_2 b0_3 b0_4 b0_5 b0_6 : Int) (b0_7 b0_8 b0_9 b0_10 : List (List Cell)) (b0_11 : Bool) (b0_12 b0_13 b0_14 b0_15 b0_16 : List (List Cell)) (b0_17 : Bool) : goF E (callOf L29) F25 0 (m + 1) P25_3 (M25_3 t67 b0 b0_1 b0_2 b0_3 b0_4 b0_5 b0_6 b0_7 b0_8 b0_9 b0_10 b0_11 b0_12 b0_13 b0_14 b0_15 b0_16 b0_17) =
  (cond t67
  (some ([.one (.int .i64 2)], []))
  (cond (b0 == 2)
  (cond (okM b0_7 b0_8 b0_9 b0_10 b0_12 b0_13 b0_14 b0_15 b0_16)
  (some ([.one (.int .i64 (vBases (Msg.mk b0 b0_1 b0_2 b0_3 b0_4 b0_5 b0_6 b0_7 b0_8 b0_9 b0_10 b0_11 b0_12 b0_13 b0_14 b0_15 b0_16 b0_17)))], []))
  none)
  (goF E (callOf L29) F25 0 m P25_4 (M25_4 )))) := by kernel_rfl

theorem e25_4 (m : Nat)  : goF E (callOf L29) F25 0 (m + 1) P25_4 (M25_4 ) =
  (some ([.one (.int .i64 0)], [])) := by kernel_rfl

theorem e9 (m : Nat) (k1 f1 t1 p1 n1 r1 o1 : Int) (cf1 ct1 bf1 bt1 : List (List Cell)) (h1 : Bool) (ef1 et1 g1 u1 v1 : List (List Cell)) (m1 : Bool) : runF E (callOf L25) (m + 1) 9 [.agg [.int .i64 k1, .int .i64 f1, .int .i64 t1, .int .i64 p1, .int .i64 n1, .int .i64 r1, .int .i64 o1, .sl false 93 cf1, .sl false 93 ct1, .sl false 93 bf1, .sl false 93 bt1, .bool h1, .sl false 93 ef1, .sl false 93 et1, .sl false 93 g1, .sl false 96 u1, .sl false 103 v1, .bool m1]] [] =
  (cond (decide (k1 < 1))
  (some ([.one (.int .i64 10)], []))
  (cond (decide (k1 > 8))
  (some ([.one (.int .i64 10)], []))
  (cond (!(isProc f1))
  (some ([.one (.int .i64 9)], []))
  (cond (!(isProc t1))
  (some ([.one (.int .i64 9)], []))
  (cond (!(unusedW (Msg.mk k1 f1 t1 p1 n1 r1 o1 cf1 ct1 bf1 bt1 h1 ef1 et1 g1 u1 v1 m1)))
  (some ([.one (.int .i64 2)], []))
  (cond (k1 == 1)
  (cond (okM cf1 ct1 bf1 bt1 ef1 et1 g1 u1 v1)
  (some ([.one (.int .i64 (vExch (Msg.mk k1 f1 t1 p1 n1 r1 o1 cf1 ct1 bf1 bt1 h1 ef1 et1 g1 u1 v1 m1)))], []))
  none)
  (cond (k1 == 2)
  (cond (okM cf1 ct1 bf1 bt1 ef1 et1 g1 u1 v1)
  (some ([.one (.int .i64 (vExch (Msg.mk k1 f1 t1 p1 n1 r1 o1 cf1 ct1 bf1 bt1 h1 ef1 et1 g1 u1 v1 m1)))], []))
  none)
  (cond (okRows cf1 && okRows ct1)
  (cond ((vCert cf1 ct1) != 0)
  (cond (okRows cf1 && okRows ct1)
  (some ([.one (.int .i64 (vCert cf1 ct1))], []))
  none)
  (cond (k1 == 4)
  (cond (okLn v1)
  (some ([.one (.int .i64 (vVec v1))], []))
  none)
  (cond (k1 == 5)
  (cond (decide (u1.length < 9223372036854775808))
  (cond ((vCh u1) != 0)
  (cond (decide (u1.length < 9223372036854775808))
  (some ([.one (.int .i64 (vCh u1))], []))
  none)
  (cond (k1 == 5)
  (cond (okM cf1 ct1 bf1 bt1 ef1 et1 g1 u1 v1)
  (some ([.one (.int .i64 (vBases (Msg.mk k1 f1 t1 p1 n1 r1 o1 cf1 ct1 bf1 bt1 h1 ef1 et1 g1 u1 v1 m1)))], []))
  none)
  (some ([.one (.int .i64 0)], []))))
  none)
  (cond (k1 == 5)
  (cond (okM cf1 ct1 bf1 bt1 ef1 et1 g1 u1 v1)
  (some ([.one (.int .i64 (vBases (Msg.mk k1 f1 t1 p1 n1 r1 o1 cf1 ct1 bf1 bt1 h1 ef1 et1 g1 u1 v1 m1)))], []))
  none)
  (some ([.one (.int .i64 0)], []))))))
  none)))))))) := by kernel_rfl

theorem e84 (m : Nat) (x : List (List Cell)) : runF E (callOf L9) (m + 1) 84 [.one (.sl false 5 x)] [] =
  (cond ((x.length : Int) == 0)
  (some ([.one (.bool false), .one (.int .i64 0), .one (.int .i64 1)], []))
  (cond (inB 0 x.length)
  (cond (decide ((nr (Abs.rowAt x 0) 0) > 1))
  (some ([.one (.bool false), .one (.int .i64 0), .one (.int .i64 2)], []))
  (cond (inB 0 x.length)
  (some ([.one (.bool ((nr (Abs.rowAt x 0) 0) == 1)), .one (.int .i64 1), .one (.int .i64 0)], []))
  none))
  none)) := by kernel_rfl

theorem e90 (m : Nat) (x : List (List Cell)) : runF E (callOf L84) (m + 1) 90 [.one (.sl false 5 x)] [] =
  (cond ((x.length : Int) == 0)
  (some ([.one (.bool false), .one (.int .i64 0), .one (.int .i64 1)], []))
  (cond (inB 0 x.length)
  (cond (decide ((nr (Abs.rowAt x 0) 0) > 1))
  (some ([.one (.bool false), .one (.int .i64 0), .one (.int .i64 2)], []))
  (cond (inB 0 x.length)
  (some ([.one (.bool ((nr (Abs.rowAt x 0) 0) == 1)), .one (.int .i64 1), .one (.int .i64 0)], []))
  none))
  none)) := by kernel_rfl

theorem e75 (m : Nat) (b : List (List Cell)) (o e : Int) : runF E (callOf L90) (m + 1) 75 [.one (.ptr 0 0), .one (.fn 76 [])] [.var [.sl false 5 b, .int .i64 o, .int .i64 e]] =
  (cond (e != 0)
  (some ([.one (.int .u64 0)], [.var [.sl false 5 b, .int .i64 o, .int .i64 e]]))
  (cond (inB o (b.length + 1))
  (cond (okRd (dropN b (Int.toNat o)))
  (some ([.one (.int .u64 (udec (dropN b (Int.toNat o))).1)], [.var [.sl false 5 b, .int .i64 (IntKind.wrap .i64 (o + (udec (dropN b (Int.toNat o))).2.1)), .int .i64 (udec (dropN b (Int.toNat o))).2.2]]))
  none)
  none)) := by kernel_rfl

theorem e31 (m : Nat) (w : Bool) (k : Int) (b : List (List Cell)) (o e : Int) : runF E (callOf L75) (m + 1) 31 [.one (.ptr 0 0), .one (.bool w), .one (.int .i64 k)] [.var [.sl false 5 b, .int .i64 o, .int .i64 e]] =
  (cond w
  (cond (e == 0)
  (some ([], [.var [.sl false 5 b, .int .i64 o, .int .i64 k]]))
  (some ([], [.var [.sl false 5 b, .int .i64 o, .int .i64 e]])))
  (some ([], [.var [.sl false 5 b, .int .i64 o, .int .i64 e]]))) := by kernel_rfl

theorem e30 (m : Nat) (b : List (List Cell)) (o e : Int) : runF E (callOf L31) (m + 1) 30 [.one (.ptr 0 0)] [.var [.sl false 5 b, .int .i64 o, .int .i64 e]] =
  (cond (okAt b o)
  (cond ((failE (decide ((rstep 0 udec b o e).1 > 2147483647)) 9 (rstep 0 udec b o e).2.2) != 0)
  (some ([.one (.int .i64 0)], [.var [.sl false 5 b, .int .i64 (rstep 0 udec b o e).2.1, .int .i64 (failE (decide ((rstep 0 udec b o e).1 > 2147483647)) 9 (rstep 0 udec b o e).2.2)]]))
  (some ([.one (.int .i64 (IntKind.wrap .i64 (rstep 0 udec b o e).1))], [.var [.sl false 5 b, .int .i64 (rstep 0 udec b o e).2.1, .int .i64 (failE (decide ((rstep 0 udec b o e).1 > 2147483647)) 9 (rstep 0 udec b o e).2.2)]])))
  none) := by kernel_rfl

theorem e77 (m : Nat) (b : List (List Cell)) (o e : Int) : runF E (callOf L30) (m + 1) 77 [.one (.ptr 0 0), .one (.fn 78 [])] [.var [.sl false 5 b, .int .i64 o, .int .i64 e]] =
  (cond (e != 0)
  (some ([.one (.sl false 93 ([] : List (List Cell)))], [.var [.sl false 5 b, .int .i64 o, .int .i64 e]]))
  (cond (inB o (b.length + 1))
  (cond (okRd (dropN b (Int.toNat o)))
  (some ([.one (.sl false 93 (decC (dropN b (Int.toNat o))).1)], [.var [.sl false 5 b, .int .i64 (IntKind.wrap .i64 (o + (decC (dropN b (Int.toNat o))).2.1)), .int .i64 (decC (dropN b (Int.toNat o))).2.2]]))
  none)
  none)) := by kernel_rfl

theorem e80 (m : Nat) (b : List (List Cell)) (o e : Int) : runF E (callOf L77) (m + 1) 80 [.one (.ptr 0 0), .one (.fn 81 [])] [.var [.sl false 5 b, .int .i64 o, .int .i64 e]] =
  (cond (e != 0)
  (some ([.agg [.sl false 93 ([] : List (List Cell)), .sl false 93 ([] : List (List Cell))]], [.var [.sl false 5 b, .int .i64 o, .int .i64 e]]))
  (cond (inB o (b.length + 1))
  (cond (okRd (dropN b (Int.toNat o)))
  (some ([.agg [.sl false 93 (decT (dropN b (Int.toNat o))).1, .sl false 93 (decT (dropN b (Int.toNat o))).2.1]], [.var [.sl false 5 b, .int .i64 (IntKind.wrap .i64 (o + (decT (dropN b (Int.toNat o))).2.2.1)), .int .i64 (decT (dropN b (Int.toNat o))).2.2.2]]))
  none)
  none)) := by kernel_rfl

theorem e117 (m : Nat) (b : List (List Cell)) (o e : Int) : runF E (callOf L80) (m + 1) 117 [.one (.ptr 0 0), .one (.fn 118 [])] [.var [.sl false 5 b, .int .i64 o, .int .i64 e]] =
  (cond (e != 0)
  (some ([.agg [.int .i64 0, .int .i64 0, .int .i64 0, .sl false 136 ([] : List (List Cell))]], [.var [.sl false 5 b, .int .i64 o, .int .i64 e]]))
  (cond (inB o (b.length + 1))
  (cond (okRd (dropN b (Int.toNat o)))
  (some ([.agg [.int .i64 (decU (dropN b (Int.toNat o))).1, .int .i64 (decU (dropN b (Int.toNat o))).2.1, .int .i64 (decU (dropN b (Int.toNat o))).2.2.1, .sl false 136 (decU (dropN b (Int.toNat o))).2.2.2.1]], [.var [.sl false 5 b, .int .i64 (IntKind.wrap .i64 (o + (decU (dropN b (Int.toNat o))).2.2.2.2.1)), .int .i64 (decU (dropN b (Int.toNat o))).2.2.2.2.2]]))
  none)
  none)) := by kernel_rfl

theorem e83 (m : Nat) (b : List (List Cell)) (o e : Int) : runF E (callOf L117) (m + 1) 83 [.one (.ptr 0 0), .one (.fn 84 [])] [.var [.sl false 5 b, .int .i64 o, .int .i64 e]] =
  (cond (e != 0)
  (some ([.one (.bool false)], [.var [.sl false 5 b, .int .i64 o, .int .i64 e]]))
  (cond (inB o (b.length + 1))
  (cond (okRd (dropN b (Int.toNat o)))
  (some ([.one (.bool (bdec (dropN b (Int.toNat o))).1)], [.var [.sl false 5 b, .int .i64 (IntKind.wrap .i64 (o + (bdec (dropN b (Int.toNat o))).2.1)), .int .i64 (bdec (dropN b (Int.toNat o))).2.2]]))
  none)
  none)) := by kernel_rfl

noncomputable def P79_0 : List AItem := F79.at [.snd, .snd, .snd, .snd, .fst, .snd, .sub, .head]

def M79_0 (t3 : Int) (t4 : List (List Cell)) (t5 : Int) (b0 : List (List Cell)) (b0_1 : Int) (b0_2 : Int) : St := ⟨[(0, .one (.ptr 0 0)), (3, .one (.int .i64 t3)), (4, .one (.sl true 96 t4)), (5, .one (.int .i64 t5))], [.var [.sl false 5 b0, .int .i64 b0_1, .int .i64 b0_2]]⟩

theorem e79 (m : Nat) (b : List (List Cell)) (o e : Int) : runF E (callOf L83) (m + 1) 79 [.one (.ptr 0 0)] [.var [.sl false 5 b, .int .i64 o, .int .i64 e]] =
  (cond (okAt b o)
  (goF E (callOf L83) F79 1 m P79_0 (M79_0 (rnumM b o e).1 ([] : List (List Cell)) 0 b (rnumM b o e).2.1 (failE (decide ((rnumM b o e).1 > 48)) 3 (rnumM b o e).2.2)))
  none) := by kernel_rfl

theorem e79_0 (m : Nat) (t3 : Int) (t4 : List (List Cell)) (t5 : Int) (b0 : List (List Cell)) (b0_1 b0_2 : Int) : goF E (callOf L83) F79 1 (m + 1) P79_0 (M79_0 t3 t4 t5 b0 b0_1 b0_2) =
  (cond (decide (t5 < t3))
  (cond (b0_2 == 0)
  (cond (okAt b0 b0_1)
  (cond (fits (t4.length + [[Cell.int .i64 (rupd b0 b0_1 b0_2).1.1, Cell.int .i64 (rupd b0 b0_1 b0_2).1.2.1, Cell.int .i64 (rupd b0 b0_1 b0_2).1.2.2.1, Cell.slice 136 (rupd b0 b0_1 b0_2).1.2.2.2]].length))
  (goF E (callOf L83) F79 1 m P79_0 (M79_0 t3 (t4 ++ [[Cell.int .i64 (rupd b0 b0_1 b0_2).1.1, Cell.int .i64 (rupd b0 b0_1 b0_2).1.2.1, Cell.int .i64 (rupd b0 b0_1 b0_2).1.2.2.1, Cell.slice 136 (rupd b0 b0_1 b0_2).1.2.2.2]]) (IntKind.wrap .i64 (t5 + 1)) b0 (rupd b0 b0_1 b0_2).2.1 (rupd b0 b0_1 b0_2).2.2))
  none)
  none)
  (some ([.one (.sl false 96 t4)], [.var [.sl false 5 b0, .int .i64 b0_1, .int .i64 b0_2]])))
  (some ([.one (.sl false 96 t4)], [.var [.sl false 5 b0, .int .i64 b0_1, .int .i64 b0_2]]))) := by kernel_rfl

noncomputable def P82_0 : List AItem := F82.at [.snd, .snd, .snd, .snd, .fst, .snd, .sub, .head]

def M82_0 (t3 : Int) (t4 : List (List Cell)) (t5 : Int) (b0 : List (List Cell)) (b0_1 : Int) (b0_2 : Int) : St := ⟨[(0, .one (.ptr 0 0)), (3, .one (.int .i64 t3)), (4, .one (.sl true 103 t4)), (5, .one (.int .i64 t5))], [.var [.sl false 5 b0, .int .i64 b0_1, .int .i64 b0_2]]⟩

theorem e82 (m : Nat) (b : List (List Cell)) (o e : Int) : runF E (callOf L79) (m + 1) 82 [.one (.ptr 0 0)] [.var [.sl false 5 b, .int .i64 o, .int .i64 e]] =
  (cond (okAt b o)
  (goF E (callOf L79) F82 1 m P82_0 (M82_0 (rnumM b o e).1 ([] : List (List Cell)) 0 b (rnumM b o e).2.1 (failE (decide ((rnumM b o e).1 > 100)) 3 (rnumM b o e).2.2)))
  none) := by kernel_rfl

theorem e82_0 (m : Nat) (t3 : Int) (t4 : List (List Cell)) (t5 : Int) (b0 : List (List Cell)) (b0_1 b0_2 : Int) : goF E (callOf L79) F82 1 (m + 1) P82_0 (M82_0 t3 t4 t5 b0 b0_1 b0_2) =
  (cond (decide (t5 < t3))
  (cond (b0_2 == 0)
  (cond (okAt b0 b0_1)
  (cond (okAt b0 (rnumM b0 b0_1 b0_2).2.1)
  (cond (fits (t4.length + [[Cell.int .i64 (rnumM b0 b0_1 b0_2).1, Cell.int .i64 (rnumM b0 (rnumM b0 b0_1 b0_2).2.1 (rnumM b0 b0_1 b0_2).2.2).1]].length))
  (goF E (callOf L79) F82 1 m P82_0 (M82_0 t3 (t4 ++ [[Cell.int .i64 (rnumM b0 b0_1 b0_2).1, Cell.int .i64 (rnumM b0 (rnumM b0 b0_1 b0_2).2.1 (rnumM b0 b0_1 b0_2).2.2).1]]) (IntKind.wrap .i64 (t5 + 1)) b0 (rnumM b0 (rnumM b0 b0_1 b0_2).2.1 (rnumM b0 b0_1 b0_2).2.2).2.1 (rnumM b0 (rnumM b0 b0_1 b0_2).2.1 (rnumM b0 b0_1 b0_2).2.2).2.2))
  none)
  none)
  none)
  (some ([.one (.sl false 103 t4)], [.var [.sl false 5 b0, .int .i64 b0_1, .int .i64 b0_2]])))
  (some ([.one (.sl false 103 t4)], [.var [.sl false 5 b0, .int .i64 b0_1, .int .i64 b0_2]]))) := by kernel_rfl

theorem e32 (m : Nat) (f : Int) (b : List (List Cell)) (o e k1 f1 t1 p1 n1 r1 o1 : Int) (cf1 ct1 bf1 bt1 : List (List Cell)) (h1 : Bool) (ef1 et1 g1 u1 v1 : List (List Cell)) (m1 : Bool) : runF E (callOf L82) (m + 1) 32 [.one (.ptr 0 0), .one (.ptr 1 0), .one (.int .i64 f)] [.var [.sl false 5 b, .int .i64 o, .int .i64 e], .var [.int .i64 k1, .int .i64 f1, .int .i64 t1, .int .i64 p1, .int .i64 n1, .int .i64 r1, .int .i64 o1, .sl false 93 cf1, .sl false 93 ct1, .sl false 93 bf1, .sl false 93 bt1, .bool h1, .sl false 93 ef1, .sl false 93 et1, .sl false 93 g1, .sl false 96 u1, .sl false 103 v1, .bool m1]] =
  (cond (f == 0)
  (cond (okAt b o)
  (cond (okAt b (rnumM b o e).2.1)
  (some ([], [.var [.sl false 5 b, .int .i64 (rnumM b (rnumM b o e).2.1 (rnumM b o e).2.2).2.1, .int .i64 (rnumM b (rnumM b o e).2.1 (rnumM b o e).2.2).2.2], .var [.int .i64 k1, .int .i64 f1, .int .i64 t1, .int .i64 (rnumM b o e).1, .int .i64 (rnumM b (rnumM b o e).2.1 (rnumM b o e).2.2).1, .int .i64 r1, .int .i64 o1, .sl false 93 cf1, .sl false 93 ct1, .sl false 93 bf1, .sl false 93 bt1, .bool h1, .sl false 93 ef1, .sl false 93 et1, .sl false 93 g1, .sl false 96 u1, .sl false 103 v1, .bool m1]]))
  none)
  none)
  (cond (f == 1)
  (cond (okAt b o)
  (some ([], [.var [.sl false 5 b, .int .i64 (rnumM b o e).2.1, .int .i64 (rnumM b o e).2.2], .var [.int .i64 k1, .int .i64 f1, .int .i64 t1, .int .i64 p1, .int .i64 n1, .int .i64 (rnumM b o e).1, .int .i64 o1, .sl false 93 cf1, .sl false 93 ct1, .sl false 93 bf1, .sl false 93 bt1, .bool h1, .sl false 93 ef1, .sl false 93 et1, .sl false 93 g1, .sl false 96 u1, .sl false 103 v1, .bool m1]]))
  none)
  (cond (f == 2)
  (cond (okAt b o)
  (some ([], [.var [.sl false 5 b, .int .i64 (rnumM b o e).2.1, .int .i64 (rnumM b o e).2.2], .var [.int .i64 k1, .int .i64 f1, .int .i64 t1, .int .i64 p1, .int .i64 n1, .int .i64 r1, .int .i64 (rnumM b o e).1, .sl false 93 cf1, .sl false 93 ct1, .sl false 93 bf1, .sl false 93 bt1, .bool h1, .sl false 93 ef1, .sl false 93 et1, .sl false 93 g1, .sl false 96 u1, .sl false 103 v1, .bool m1]]))
  none)
  (cond (f == 3)
  (cond (okAt b o)
  (some ([], [.var [.sl false 5 b, .int .i64 (rcfg b o e).2.1, .int .i64 (rcfg b o e).2.2], .var [.int .i64 k1, .int .i64 f1, .int .i64 t1, .int .i64 p1, .int .i64 n1, .int .i64 r1, .int .i64 o1, .sl false 93 cf1, .sl false 93 ct1, .sl false 93 bf1, .sl false 93 bt1, .bool h1, .sl false 93 ef1, .sl false 93 et1, .sl false 93 (rcfg b o e).1, .sl false 96 u1, .sl false 103 v1, .bool m1]]))
  none)
  (cond (f == 4)
  (cond (okAt b o)
  (some ([], [.var [.sl false 5 b, .int .i64 (rst b o e).2.1, .int .i64 (rst b o e).2.2], .var [.int .i64 k1, .int .i64 f1, .int .i64 t1, .int .i64 p1, .int .i64 n1, .int .i64 r1, .int .i64 o1, .sl false 93 cf1, .sl false 93 ct1, .sl false 93 bf1, .sl false 93 bt1, .bool h1, .sl false 93 ef1, .sl false 93 et1, .sl false 93 g1, .sl false 96 (rst b o e).1, .sl false 103 v1, .bool m1]]))
  none)
  (cond (f == 5)
  (cond (okAt b o)
  (some ([], [.var [.sl false 5 b, .int .i64 (rcert b o e).2.1, .int .i64 (rcert b o e).2.2], .var [.int .i64 k1, .int .i64 f1, .int .i64 t1, .int .i64 p1, .int .i64 n1, .int .i64 r1, .int .i64 o1, .sl false 93 (rcert b o e).1.1, .sl false 93 (rcert b o e).1.2, .sl false 93 bf1, .sl false 93 bt1, .bool h1, .sl false 93 ef1, .sl false 93 et1, .sl false 93 g1, .sl false 96 u1, .sl false 103 v1, .bool m1]]))
  none)
  (cond (f == 6)
  (cond (okAt b o)
  (some ([], [.var [.sl false 5 b, .int .i64 (rvc b o e).2.1, .int .i64 (rvc b o e).2.2], .var [.int .i64 k1, .int .i64 f1, .int .i64 t1, .int .i64 p1, .int .i64 n1, .int .i64 r1, .int .i64 o1, .sl false 93 cf1, .sl false 93 ct1, .sl false 93 bf1, .sl false 93 bt1, .bool h1, .sl false 93 ef1, .sl false 93 et1, .sl false 93 g1, .sl false 96 u1, .sl false 103 (rvc b o e).1, .bool m1]]))
  none)
  (cond (f == 7)
  (cond (okAt b o)
  (some ([], [.var [.sl false 5 b, .int .i64 (rbool b o e).2.1, .int .i64 (rbool b o e).2.2], .var [.int .i64 k1, .int .i64 f1, .int .i64 t1, .int .i64 p1, .int .i64 n1, .int .i64 r1, .int .i64 o1, .sl false 93 cf1, .sl false 93 ct1, .sl false 93 bf1, .sl false 93 bt1, .bool h1, .sl false 93 ef1, .sl false 93 et1, .sl false 93 g1, .sl false 96 u1, .sl false 103 v1, .bool (rbool b o e).1]]))
  none)
  (cond (f == 8)
  (cond (okAt b o)
  (some ([], [.var [.sl false 5 b, .int .i64 (rbool b o e).2.1, .int .i64 (rbool b o e).2.2], .var [.int .i64 k1, .int .i64 f1, .int .i64 t1, .int .i64 p1, .int .i64 n1, .int .i64 r1, .int .i64 o1, .sl false 93 cf1, .sl false 93 ct1, .sl false 93 bf1, .sl false 93 bt1, .bool (rbool b o e).1, .sl false 93 ef1, .sl false 93 et1, .sl false 93 g1, .sl false 96 u1, .sl false 103 v1, .bool m1]]))
  none)
  (cond (f == 9)
  (cond h1
  (cond (okAt b o)
  (some ([], [.var [.sl false 5 b, .int .i64 (rcert b o e).2.1, .int .i64 (rcert b o e).2.2], .var [.int .i64 k1, .int .i64 f1, .int .i64 t1, .int .i64 p1, .int .i64 n1, .int .i64 r1, .int .i64 o1, .sl false 93 cf1, .sl false 93 ct1, .sl false 93 (rcert b o e).1.1, .sl false 93 (rcert b o e).1.2, .bool h1, .sl false 93 ef1, .sl false 93 et1, .sl false 93 g1, .sl false 96 u1, .sl false 103 v1, .bool m1]]))
  none)
  (some ([], [.var [.sl false 5 b, .int .i64 o, .int .i64 e], .var [.int .i64 k1, .int .i64 f1, .int .i64 t1, .int .i64 p1, .int .i64 n1, .int .i64 r1, .int .i64 o1, .sl false 93 cf1, .sl false 93 ct1, .sl false 93 bf1, .sl false 93 bt1, .bool h1, .sl false 93 ef1, .sl false 93 et1, .sl false 93 g1, .sl false 96 u1, .sl false 103 v1, .bool m1]])))
  (cond (f == 10)
  (cond (okAt b o)
  (some ([], [.var [.sl false 5 b, .int .i64 (rcert b o e).2.1, .int .i64 (rcert b o e).2.2], .var [.int .i64 k1, .int .i64 f1, .int .i64 t1, .int .i64 p1, .int .i64 n1, .int .i64 r1, .int .i64 o1, .sl false 93 cf1, .sl false 93 ct1, .sl false 93 bf1, .sl false 93 bt1, .bool h1, .sl false 93 (rcert b o e).1.1, .sl false 93 (rcert b o e).1.2, .sl false 93 g1, .sl false 96 u1, .sl false 103 v1, .bool m1]]))
  none)
  (some ([], [.var [.sl false 5 b, .int .i64 o, .int .i64 e], .var [.int .i64 k1, .int .i64 f1, .int .i64 t1, .int .i64 p1, .int .i64 n1, .int .i64 r1, .int .i64 o1, .sl false 93 cf1, .sl false 93 ct1, .sl false 93 bf1, .sl false 93 bt1, .bool h1, .sl false 93 ef1, .sl false 93 et1, .sl false 93 g1, .sl false 96 u1, .sl false 103 v1, .bool m1]]))))))))))))) := by kernel_rfl

noncomputable def P10_0 : List AItem := F10.at [.snd, .snd, .snd, .snd, .snd, .snd, .snd, .fst, .snd, .sub, .head]

def M10_0 (t33 : List (List Cell)) (t34 : Int) (t35 : Int) (b0 : Int) (b0_1 : Int) (b0_2 : Int) (b0_3 : Int) (b0_4 : Int) (b0_5 : Int) (b0_6 : Int) (b0_7 : List (List Cell)) (b0_8 : List (List Cell)) (b0_9 : List (List Cell)) (b0_10 : List (List Cell)) (b0_11 : Bool) (b0_12 : List (List Cell)) (b0_13 : List (List Cell)) (b0_14 : List (List Cell)) (b0_15 : List (List Cell)) (b0_16 : List (List Cell)) (b0_17 : Bool) (b1 : List (List Cell)) (b1_1 : Int) (b1_2 : Int) (b2 : Int) (b2_1 : Int) (b2_2 : Int) (b2_3 : Int) (b2_4 : Int) (b2_5 : Int) (b2_6 : Int) (b2_7 : List (List Cell)) (b2_8 : List (List Cell)) (b2_9 : List (List Cell)) (b2_10 : List (List Cell)) (b2_11 : Bool) (b2_12 : List (List Cell)) (b2_13 : List (List Cell)) (b2_14 : List (List Cell)) (b2_15 : List (List Cell)) (b2_16 : List (List Cell)) (b2_17 : Bool) : St := ⟨[(2, .one (.ptr 0 0)), (5, .one (.ptr 1 0)), (6, .one (.ptr 2 0)), (33, .one (.sl false 54 t33)), (34, .one (.int .i64 t34)), (35, .one (.int .i64 t35))], [.var [.int .i64 b0, .int .i64 b0_1, .int .i64 b0_2, .int .i64 b0_3, .int .i64 b0_4, .int .i64 b0_5, .int .i64 b0_6, .sl true 93 b0_7, .sl true 93 b0_8, .sl true 93 b0_9, .sl true 93 b0_10, .bool b0_11, .sl true 93 b0_12, .sl true 93 b0_13, .sl true 93 b0_14, .sl true 96 b0_15, .sl true 103 b0_16, .bool b0_17], .var [.sl false 5 b1, .int .i64 b1_1, .int .i64 b1_2], .var [.int .i64 b2, .int .i64 b2_1, .int .i64 b2_2, .int .i64 b2_3, .int .i64 b2_4, .int .i64 b2_5, .int .i64 b2_6, .sl false 93 b2_7, .sl false 93 b2_8, .sl false 93 b2_9, .sl false 93 b2_10, .bool b2_11, .sl false 93 b2_12, .sl false 93 b2_13, .sl false 93 b2_14, .sl false 96 b2_15, .sl false 103 b2_16, .bool b2_17]]⟩

theorem e10 (m : Nat) (x : List (List Cell)) : runF E (callOf L32) (m + 1) 10 [.one (.sl false 5 x)] [] =
  (cond (okAt x 0)
  (cond (okAt x (rnumM x 0 0).2.1)
  (cond (okAt x (rnumM x (rnumM x 0 0).2.1 (failE (!((usedL (rnumM x 0 0).1).isSome)) 10 (rnumM x 0 0).2.2)).2.1)
  (goF E (callOf L32) F10 0 m P10_0 (M10_0 (usedR (rnumM x 0 0).1) ((usedR (rnumM x 0 0).1).length : Int) 0 0 0 0 0 0 0 0 ([] : List (List Cell)) ([] : List (List Cell)) ([] : List (List Cell)) ([] : List (List Cell)) false ([] : List (List Cell)) ([] : List (List Cell)) ([] : List (List Cell)) ([] : List (List Cell)) ([] : List (List Cell)) false x (rnumM x (rnumM x (rnumM x 0 0).2.1 (failE (!((usedL (rnumM x 0 0).1).isSome)) 10 (rnumM x 0 0).2.2)).2.1 (rnumM x (rnumM x 0 0).2.1 (failE (!((usedL (rnumM x 0 0).1).isSome)) 10 (rnumM x 0 0).2.2)).2.2).2.1 (rnumM x (rnumM x (rnumM x 0 0).2.1 (failE (!((usedL (rnumM x 0 0).1).isSome)) 10 (rnumM x 0 0).2.2)).2.1 (rnumM x (rnumM x 0 0).2.1 (failE (!((usedL (rnumM x 0 0).1).isSome)) 10 (rnumM x 0 0).2.2)).2.2).2.2 (rnumM x 0 0).1 (rnumM x (rnumM x 0 0).2.1 (failE (!((usedL (rnumM x 0 0).1).isSome)) 10 (rnumM x 0 0).2.2)).1 (rnumM x (rnumM x (rnumM x 0 0).2.1 (failE (!((usedL (rnumM x 0 0).1).isSome)) 10 (rnumM x 0 0).2.2)).2.1 (rnumM x (rnumM x 0 0).2.1 (failE (!((usedL (rnumM x 0 0).1).isSome)) 10 (rnumM x 0 0).2.2)).2.2).1 0 0 0 0 ([] : List (List Cell)) ([] : List (List Cell)) ([] : List (List Cell)) ([] : List (List Cell)) false ([] : List (List Cell)) ([] : List (List Cell)) ([] : List (List Cell)) ([] : List (List Cell)) ([] : List (List Cell)) false))
  none)
  none)
  none) := by kernel_rfl

theorem e10_0 (m : Nat) (t33 : List (List Cell)) (t34 t35 b0 b0_1 b0_2 b0_3 b0_4 b0_5 b0_6 : Int) (b0_7 b0_8 b0_9 b0_10 : List (List Cell)) (b0_11 : Bool) (b0_12 b0_13 b0_14 b0_15 b0_16 : List (List Cell)) (b0_17 : Bool) (b1 : List (List Cell)) (b1_1 b1_2 b2 b2_1 b2_2 b2_3 b2_4 b2_5 b2_6 : Int) (b2_7 b2_8 b2_9 b2_10 : List (List Cell)) (b2_11 : Bool) (b2_12 b2_13 b2_14 b2_15 b2_16 : List (List Cell)) (b2_17 : Bool) : goF E (callOf L32) F10 0 (m + 1) P10_0 (M10_0 t33 t34 t35 b0 b0_1 b0_2 b0_3 b0_4 b0_5 b0_6 b0_7 b0_8 b0_9 b0_10 b0_11 b0_12 b0_13 b0_14 b0_15 b0_16 b0_17 b1 b1_1 b1_2 b2 b2_1 b2_2 b2_3 b2_4 b2_5 b2_6 b2_7 b2_8 b2_9 b2_10 b2_11 b2_12 b2_13 b2_14 b2_15 b2_16 b2_17) =
  let z2 := Msg.mk b2 b2_1 b2_2 b2_3 b2_4 b2_5 b2_6 b2_7 b2_8 b2_9 b2_10 b2_11 b2_12 b2_13 b2_14 b2_15 b2_16 b2_17
  let z1 := rdF b1 b1_1 b1_2 z2 (nr (Abs.rowAt t33 (Int.toNat t35)) 0)
  (cond (decide (t35 < t34))
  (cond (inB t35 t33.length)
  (cond (okAt b1 b1_1)
  (goF E (callOf L32) F10 0 m P10_0 (M10_0 t33 t34 (IntKind.wrap .i64 (t35 + 1)) b0 b0_1 b0_2 b0_3 b0_4 b0_5 b0_6 b0_7 b0_8 b0_9 b0_10 b0_11 b0_12 b0_13 b0_14 b0_15 b0_16 b0_17 b1 z1.2.1 z1.2.2 z1.1.k z1.1.f z1.1.t z1.1.p z1.1.n z1.1.r z1.1.o z1.1.cf z1.1.ct z1.1.bf z1.1.bt z1.1.h z1.1.ef z1.1.et z1.1.g z1.1.u z1.1.v z1.1.m))
  none)
  none)
  (cond (b1_2 == 0)
  (cond (okM b2_7 b2_8 b2_9 b2_10 b2_12 b2_13 b2_14 b2_15 b2_16)
  (cond ((vMsg z2) != 0)
  (some ([.agg [.int .i64 0, .int .i64 0, .int .i64 0, .int .i64 0, .int .i64 0, .int .i64 0, .int .i64 0, .sl false 93 ([] : List (List Cell)), .sl false 93 ([] : List (List Cell)), .sl false 93 ([] : List (List Cell)), .sl false 93 ([] : List (List Cell)), .bool false, .sl false 93 ([] : List (List Cell)), .sl false 93 ([] : List (List Cell)), .sl false 93 ([] : List (List Cell)), .sl false 96 ([] : List (List Cell)), .sl false 103 ([] : List (List Cell)), .bool false], .one (.int .i64 0), .one (.int .i64 (vMsg z2))], []))
  (some ([.agg [.int .i64 b2, .int .i64 b2_1, .int .i64 b2_2, .int .i64 b2_3, .int .i64 b2_4, .int .i64 b2_5, .int .i64 b2_6, .sl false 93 b2_7, .sl false 93 b2_8, .sl false 93 b2_9, .sl false 93 b2_10, .bool b2_11, .sl false 93 b2_12, .sl false 93 b2_13, .sl false 93 b2_14, .sl false 96 b2_15, .sl false 103 b2_16, .bool b2_17], .one (.int .i64 b1_1), .one (.int .i64 0)], [])))
  none)
  (cond (b1_2 != 0)
  (some ([.agg [.int .i64 0, .int .i64 0, .int .i64 0, .int .i64 0, .int .i64 0, .int .i64 0, .int .i64 0, .sl false 93 ([] : List (List Cell)), .sl false 93 ([] : List (List Cell)), .sl false 93 ([] : List (List Cell)), .sl false 93 ([] : List (List Cell)), .bool false, .sl false 93 ([] : List (List Cell)), .sl false 93 ([] : List (List Cell)), .sl false 93 ([] : List (List Cell)), .sl false 96 ([] : List (List Cell)), .sl false 103 ([] : List (List Cell)), .bool false], .one (.int .i64 0), .one (.int .i64 b1_2)], []))
  (some ([.agg [.int .i64 b2, .int .i64 b2_1, .int .i64 b2_2, .int .i64 b2_3, .int .i64 b2_4, .int .i64 b2_5, .int .i64 b2_6, .sl false 93 b2_7, .sl false 93 b2_8, .sl false 93 b2_9, .sl false 93 b2_10, .bool b2_11, .sl false 93 b2_12, .sl false 93 b2_13, .sl false 93 b2_14, .sl false 96 b2_15, .sl false 103 b2_16, .bool b2_17], .one (.int .i64 b1_1), .one (.int .i64 0)], []))))) := by kernel_rfl

theorem e88 (m : Nat) (k1 f1 t1 p1 n1 r1 o1 : Int) (cf1 ct1 bf1 bt1 : List (List Cell)) (h1 : Bool) (ef1 et1 g1 u1 v1 : List (List Cell)) (m1 : Bool) (x : List (List Cell)) : runF E (callOf L10) (m + 1) 88 [.agg [.int .i64 k1, .int .i64 f1, .int .i64 t1, .int .i64 p1, .int .i64 n1, .int .i64 r1, .int .i64 o1, .sl false 93 cf1, .sl false 93 ct1, .sl false 93 bf1, .sl false 93 bt1, .bool h1, .sl false 93 ef1, .sl false 93 et1, .sl false 93 g1, .sl false 96 u1, .sl false 103 v1, .bool m1], .one (.sl false 5 x)] [] =
  (cond (okRd x)
  (cond ((bdec x).2.2 != 0)
  (some ([.agg [.int .i64 k1, .int .i64 f1, .int .i64 t1, .int .i64 p1, .int .i64 n1, .int .i64 r1, .int .i64 o1, .sl false 93 cf1, .sl false 93 ct1, .sl false 93 bf1, .sl false 93 bt1, .bool h1, .sl false 93 ef1, .sl false 93 et1, .sl false 93 g1, .sl false 96 u1, .sl false 103 v1, .bool m1], .one (.int .i64 0), .one (.int .i64 (bdec x).2.2)], []))
  (cond (bdec x).1
  (cond (inB (bdec x).2.1 (x.length + 1))
  (cond (okRd (dropN x (Int.toNat (bdec x).2.1)))
  (cond ((decT (dropN x (Int.toNat (bdec x).2.1))).2.2.2 != 0)
  (some ([.agg [.int .i64 k1, .int .i64 f1, .int .i64 t1, .int .i64 p1, .int .i64 n1, .int .i64 r1, .int .i64 o1, .sl false 93 cf1, .sl false 93 ct1, .sl false 93 bf1, .sl false 93 bt1, .bool (bdec x).1, .sl false 93 ef1, .sl false 93 et1, .sl false 93 g1, .sl false 96 u1, .sl false 103 v1, .bool m1], .one (.int .i64 0), .one (.int .i64 (decT (dropN x (Int.toNat (bdec x).2.1))).2.2.2)], []))
  (cond (inB (IntKind.wrap .i64 ((bdec x).2.1 + (decT (dropN x (Int.toNat (bdec x).2.1))).2.2.1)) (x.length + 1))
  (cond (okRd (dropN x (Int.toNat (IntKind.wrap .i64 ((bdec x).2.1 + (decT (dropN x (Int.toNat (bdec x).2.1))).2.2.1)))))
  (cond ((decT (dropN x (Int.toNat (IntKind.wrap .i64 ((bdec x).2.1 + (decT (dropN x (Int.toNat (bdec x).2.1))).2.2.1))))).2.2.2 != 0)
  (some ([.agg [.int .i64 k1, .int .i64 f1, .int .i64 t1, .int .i64 p1, .int .i64 n1, .int .i64 r1, .int .i64 o1, .sl false 93 cf1, .sl false 93 ct1, .sl false 93 (decT (dropN x (Int.toNat (bdec x).2.1))).1, .sl false 93 (decT (dropN x (Int.toNat (bdec x).2.1))).2.1, .bool (bdec x).1, .sl false 93 ef1, .sl false 93 et1, .sl false 93 g1, .sl false 96 u1, .sl false 103 v1, .bool m1], .one (.int .i64 0), .one (.int .i64 (decT (dropN x (Int.toNat (IntKind.wrap .i64 ((bdec x).2.1 + (decT (dropN x (Int.toNat (bdec x).2.1))).2.2.1))))).2.2.2)], []))
  (some ([.agg [.int .i64 k1, .int .i64 f1, .int .i64 t1, .int .i64 p1, .int .i64 n1, .int .i64 r1, .int .i64 o1, .sl false 93 cf1, .sl false 93 ct1, .sl false 93 (decT (dropN x (Int.toNat (bdec x).2.1))).1, .sl false 93 (decT (dropN x (Int.toNat (bdec x).2.1))).2.1, .bool (bdec x).1, .sl false 93 (decT (dropN x (Int.toNat (IntKind.wrap .i64 ((bdec x).2.1 + (decT (dropN x (Int.toNat (bdec x).2.1))).2.2.1))))).1, .sl false 93 (decT (dropN x (Int.toNat (IntKind.wrap .i64 ((bdec x).2.1 + (decT (dropN x (Int.toNat (bdec x).2.1))).2.2.1))))).2.1, .sl false 93 g1, .sl false 96 u1, .sl false 103 v1, .bool m1], .one (.int .i64 (IntKind.wrap .i64 ((IntKind.wrap .i64 ((bdec x).2.1 + (decT (dropN x (Int.toNat (bdec x).2.1))).2.2.1)) + (decT (dropN x (Int.toNat (IntKind.wrap .i64 ((bdec x).2.1 + (decT (dropN x (Int.toNat (bdec x).2.1))).2.2.1))))).2.2.1))), .one (.int .i64 0)], [])))
  none)
  none))
  none)
  none)
  (cond (inB (bdec x).2.1 (x.length + 1))
  (cond (okRd (dropN x (Int.toNat (bdec x).2.1)))
  (cond ((decT (dropN x (Int.toNat (bdec x).2.1))).2.2.2 != 0)
  (some ([.agg [.int .i64 k1, .int .i64 f1, .int .i64 t1, .int .i64 p1, .int .i64 n1, .int .i64 r1, .int .i64 o1, .sl false 93 cf1, .sl false 93 ct1, .sl false 93 bf1, .sl false 93 bt1, .bool (bdec x).1, .sl false 93 ef1, .sl false 93 et1, .sl false 93 g1, .sl false 96 u1, .sl false 103 v1, .bool m1], .one (.int .i64 0), .one (.int .i64 (decT (dropN x (Int.toNat (bdec x).2.1))).2.2.2)], []))
  (some ([.agg [.int .i64 k1, .int .i64 f1, .int .i64 t1, .int .i64 p1, .int .i64 n1, .int .i64 r1, .int .i64 o1, .sl false 93 cf1, .sl false 93 ct1, .sl false 93 bf1, .sl false 93 bt1, .bool (bdec x).1, .sl false 93 (decT (dropN x (Int.toNat (bdec x).2.1))).1, .sl false 93 (decT (dropN x (Int.toNat (bdec x).2.1))).2.1, .sl false 93 g1, .sl false 96 u1, .sl false 103 v1, .bool m1], .one (.int .i64 (IntKind.wrap .i64 ((bdec x).2.1 + (decT (dropN x (Int.toNat (bdec x).2.1))).2.2.1))), .one (.int .i64 0)], [])))
  none)
  none)))
  none) := by kernel_rfl

theorem e35 (m : Nat) (k1 f1 t1 p1 n1 r1 o1 : Int) (h1 m1 : Bool) (x : List (List Cell)) : runF E (callOf L88) (m + 1) 35 [.agg [.int .i64 k1, .int .i64 f1, .int .i64 t1, .int .i64 p1, .int .i64 n1, .int .i64 r1, .int .i64 o1, .nils, .nils, .nils, .nils, .bool h1, .nils, .nils, .nils, .nils, .nils, .bool m1], .one (.sl false 5 x)] [] =
  let z1 := decC (dropN x (Int.toNat (rread x 4).2.1))
  let z3 := decC (dropN x (Int.toNat (rread x 3).2.1))
  let z5 := IntKind.wrap .i64 ((rread x 4).2.1 + z1.2.1)
  let z2 := Msg.mk k1 f1 t1 (nr (Abs.rowAt (rread x 4).1 0) 0) (nr (Abs.rowAt (rread x 4).1 1) 0) (nr (Abs.rowAt (rread x 4).1 2) 0) (nr (Abs.rowAt (rread x 4).1 3) 0) ([] : List (List Cell)) ([] : List (List Cell)) ([] : List (List Cell)) ([] : List (List Cell)) h1 ([] : List (List Cell)) ([] : List (List Cell)) z1.1 (decL (dropN x (Int.toNat z5))).1 ([] : List (List Cell)) m1
  let z6 := IntKind.wrap .i64 ((rread x 3).2.1 + z3.2.1)
  let z4 := Msg.mk k1 f1 t1 (nr (Abs.rowAt (rread x 3).1 0) 0) (nr (Abs.rowAt (rread x 3).1 1) 0) (nr (Abs.rowAt (rread x 3).1 2) 0) o1 ([] : List (List Cell)) ([] : List (List Cell)) ([] : List (List Cell)) ([] : List (List Cell)) h1 ([] : List (List Cell)) ([] : List (List Cell)) z3.1 (decL (dropN x (Int.toNat z6))).1 ([] : List (List Cell)) m1
  let z9 := IntKind.wrap .i64 (z6 + (decL (dropN x (Int.toNat z6))).2.1)
  let z7 := rbW z4 (dropN x (Int.toNat z9))
  let z10 := IntKind.wrap .i64 (z5 + (decL (dropN x (Int.toNat z5))).2.1)
  let z8 := rbW z2 (dropN x (Int.toNat z10))
  (cond (k1 == 1)
  (cond (okRd x && decide (4 ≤ 1000))
  (cond ((rread x 4).2.2 != 0)
  (some ([.agg [.int .i64 k1, .int .i64 f1, .int .i64 t1, .int .i64 p1, .int .i64 n1, .int .i64 r1, .int .i64 o1, .sl false 93 ([] : List (List Cell)), .sl false 93 ([] : List (List Cell)), .sl false 93 ([] : List (List Cell)), .sl false 93 ([] : List (List Cell)), .bool h1, .sl false 93 ([] : List (List Cell)), .sl false 93 ([] : List (List Cell)), .sl false 93 ([] : List (List Cell)), .sl false 96 ([] : List (List Cell)), .sl false 103 ([] : List (List Cell)), .bool m1], .one (.int .i64 0), .one (.int .i64 (rread x 4).2.2)], []))
  (cond (inB 0 (rread x 4).1.length)
  (cond (inB 1 (rread x 4).1.length)
  (cond (inB 2 (rread x 4).1.length)
  (cond (inB 3 (rread x 4).1.length)
  (cond (inB (rread x 4).2.1 (x.length + 1))
  (cond (okRd (dropN x (Int.toNat (rread x 4).2.1)))
  (cond (z1.2.2 != 0)
  (some ([.agg [.int .i64 k1, .int .i64 f1, .int .i64 t1, .int .i64 (nr (Abs.rowAt (rread x 4).1 0) 0), .int .i64 (nr (Abs.rowAt (rread x 4).1 1) 0), .int .i64 (nr (Abs.rowAt (rread x 4).1 2) 0), .int .i64 (nr (Abs.rowAt (rread x 4).1 3) 0), .sl false 93 ([] : List (List Cell)), .sl false 93 ([] : List (List Cell)), .sl false 93 ([] : List (List Cell)), .sl false 93 ([] : List (List Cell)), .bool h1, .sl false 93 ([] : List (List Cell)), .sl false 93 ([] : List (List Cell)), .sl false 93 ([] : List (List Cell)), .sl false 96 ([] : List (List Cell)), .sl false 103 ([] : List (List Cell)), .bool m1], .one (.int .i64 0), .one (.int .i64 z1.2.2)], []))
  (cond (inB z5 (x.length + 1))
  (cond (okRd (dropN x (Int.toNat z5)))
  (cond ((decL (dropN x (Int.toNat z5))).2.2 != 0)
  (some ([.agg [.int .i64 k1, .int .i64 f1, .int .i64 t1, .int .i64 (nr (Abs.rowAt (rread x 4).1 0) 0), .int .i64 (nr (Abs.rowAt (rread x 4).1 1) 0), .int .i64 (nr (Abs.rowAt (rread x 4).1 2) 0), .int .i64 (nr (Abs.rowAt (rread x 4).1 3) 0), .sl false 93 ([] : List (List Cell)), .sl false 93 ([] : List (List Cell)), .sl false 93 ([] : List (List Cell)), .sl false 93 ([] : List (List Cell)), .bool h1, .sl false 93 ([] : List (List Cell)), .sl false 93 ([] : List (List Cell)), .sl false 93 ([] : List (List Cell)), .sl false 96 ([] : List (List Cell)), .sl false 103 ([] : List (List Cell)), .bool m1], .one (.int .i64 0), .one (.int .i64 (decL (dropN x (Int.toNat z5))).2.2)], []))
  (cond (k1 == 1)
  (some ([.agg [.int .i64 k1, .int .i64 f1, .int .i64 t1, .int .i64 (nr (Abs.rowAt (rread x 4).1 0) 0), .int .i64 (nr (Abs.rowAt (rread x 4).1 1) 0), .int .i64 (nr (Abs.rowAt (rread x 4).1 2) 0), .int .i64 (nr (Abs.rowAt (rread x 4).1 3) 0), .sl false 93 ([] : List (List Cell)), .sl false 93 ([] : List (List Cell)), .sl false 93 ([] : List (List Cell)), .sl false 93 ([] : List (List Cell)), .bool h1, .sl false 93 ([] : List (List Cell)), .sl false 93 ([] : List (List Cell)), .sl false 93 z1.1, .sl false 96 (decL (dropN x (Int.toNat z5))).1, .sl false 103 ([] : List (List Cell)), .bool m1], .one (.int .i64 z10), .one (.int .i64 0)], []))
  (cond (inB z10 (x.length + 1))
  (cond (okRd (dropN x (Int.toNat z10)))
  (some ([.agg [.int .i64 z8.1.k, .int .i64 z8.1.f, .int .i64 z8.1.t, .int .i64 z8.1.p, .int .i64 z8.1.n, .int .i64 z8.1.r, .int .i64 z8.1.o, .sl false 93 z8.1.cf, .sl false 93 z8.1.ct, .sl false 93 z8.1.bf, .sl false 93 z8.1.bt, .bool z8.1.h, .sl false 93 z8.1.ef, .sl false 93 z8.1.et, .sl false 93 z8.1.g, .sl false 96 z8.1.u, .sl false 103 z8.1.v, .bool z8.1.m], .one (.int .i64 (IntKind.wrap .i64 (z10 + z8.2.1))), .one (.int .i64 z8.2.2)], []))
  none)
  none)))
  none)
  none))
  none)
  none)
  none)
  none)
  none)
  none))
  none)
  (cond (okRd x && decide (3 ≤ 1000))
  (cond ((rread x 3).2.2 != 0)
  (some ([.agg [.int .i64 k1, .int .i64 f1, .int .i64 t1, .int .i64 p1, .int .i64 n1, .int .i64 r1, .int .i64 o1, .sl false 93 ([] : List (List Cell)), .sl false 93 ([] : List (List Cell)), .sl false 93 ([] : List (List Cell)), .sl false 93 ([] : List (List Cell)), .bool h1, .sl false 93 ([] : List (List Cell)), .sl false 93 ([] : List (List Cell)), .sl false 93 ([] : List (List Cell)), .sl false 96 ([] : List (List Cell)), .sl false 103 ([] : List (List Cell)), .bool m1], .one (.int .i64 0), .one (.int .i64 (rread x 3).2.2)], []))
  (cond (inB 0 (rread x 3).1.length)
  (cond (inB 1 (rread x 3).1.length)
  (cond (inB 2 (rread x 3).1.length)
  (cond (inB (rread x 3).2.1 (x.length + 1))
  (cond (okRd (dropN x (Int.toNat (rread x 3).2.1)))
  (cond (z3.2.2 != 0)
  (some ([.agg [.int .i64 k1, .int .i64 f1, .int .i64 t1, .int .i64 (nr (Abs.rowAt (rread x 3).1 0) 0), .int .i64 (nr (Abs.rowAt (rread x 3).1 1) 0), .int .i64 (nr (Abs.rowAt (rread x 3).1 2) 0), .int .i64 o1, .sl false 93 ([] : List (List Cell)), .sl false 93 ([] : List (List Cell)), .sl false 93 ([] : List (List Cell)), .sl false 93 ([] : List (List Cell)), .bool h1, .sl false 93 ([] : List (List Cell)), .sl false 93 ([] : List (List Cell)), .sl false 93 ([] : List (List Cell)), .sl false 96 ([] : List (List Cell)), .sl false 103 ([] : List (List Cell)), .bool m1], .one (.int .i64 0), .one (.int .i64 z3.2.2)], []))
  (cond (inB z6 (x.length + 1))
  (cond (okRd (dropN x (Int.toNat z6)))
  (cond ((decL (dropN x (Int.toNat z6))).2.2 != 0)
  (some ([.agg [.int .i64 k1, .int .i64 f1, .int .i64 t1, .int .i64 (nr (Abs.rowAt (rread x 3).1 0) 0), .int .i64 (nr (Abs.rowAt (rread x 3).1 1) 0), .int .i64 (nr (Abs.rowAt (rread x 3).1 2) 0), .int .i64 o1, .sl false 93 ([] : List (List Cell)), .sl false 93 ([] : List (List Cell)), .sl false 93 ([] : List (List Cell)), .sl false 93 ([] : List (List Cell)), .bool h1, .sl false 93 ([] : List (List Cell)), .sl false 93 ([] : List (List Cell)), .sl false 93 ([] : List (List Cell)), .sl false 96 ([] : List (List Cell)), .sl false 103 ([] : List (List Cell)), .bool m1], .one (.int .i64 0), .one (.int .i64 (decL (dropN x (Int.toNat z6))).2.2)], []))
  (cond (k1 == 1)
  (some ([.agg [.int .i64 k1, .int .i64 f1, .int .i64 t1, .int .i64 (nr (Abs.rowAt (rread x 3).1 0) 0), .int .i64 (nr (Abs.rowAt (rread x 3).1 1) 0), .int .i64 (nr (Abs.rowAt (rread x 3).1 2) 0), .int .i64 o1, .sl false 93 ([] : List (List Cell)), .sl false 93 ([] : List (List Cell)), .sl false 93 ([] : List (List Cell)), .sl false 93 ([] : List (List Cell)), .bool h1, .sl false 93 ([] : List (List Cell)), .sl false 93 ([] : List (List Cell)), .sl false 93 z3.1, .sl false 96 (decL (dropN x (Int.toNat z6))).1, .sl false 103 ([] : List (List Cell)), .bool m1], .one (.int .i64 z9), .one (.int .i64 0)], []))
  (cond (inB z9 (x.length + 1))
  (cond (okRd (dropN x (Int.toNat z9)))
  (some ([.agg [.int .i64 z7.1.k, .int .i64 z7.1.f, .int .i64 z7.1.t, .int .i64 z7.1.p, .int .i64 z7.1.n, .int .i64 z7.1.r, .int .i64 z7.1.o, .sl false 93 z7.1.cf, .sl false 93 z7.1.ct, .sl false 93 z7.1.bf, .sl false 93 z7.1.bt, .bool z7.1.h, .sl false 93 z7.1.ef, .sl false 93 z7.1.et, .sl false 93 z7.1.g, .sl false 96 z7.1.u, .sl false 103 z7.1.v, .bool z7.1.m], .one (.int .i64 (IntKind.wrap .i64 (z9 + z7.2.1))), .one (.int .i64 z7.2.2)], []))
  none)
  none)))
  none)
  none))
  none)
  none)
  none)
  none)
  none))
  none)) := by kernel_rfl

noncomputable def P36_0 : List AItem := F36.at [.snd, .snd, .snd, .snd, .fst, .snd, .sub, .snd, .fst, .snd, .snd, .snd, .snd, .snd, .snd, .fst, .snd, .sub, .head]

def M36_0 (t8 : Int) (t10 : Int) (t11 : Int) (t13 : List (List Cell)) (t14 : Int) (b0 : Int) (b0_1 : Int) (b0_2 : Int) (b0_3 : Int) (b0_4 : Int) (b0_5 : Int) (b0_6 : Int) (b0_7 : List (List Cell)) (b0_8 : List (List Cell)) (b0_9 : List (List Cell)) (b0_10 : List (List Cell)) (b0_11 : Bool) (b0_12 : List (List Cell)) (b0_13 : List (List Cell)) (b0_14 : List (List Cell)) (b0_15 : List (List Cell)) (b0_16 : List (List Cell)) (b0_17 : Bool) (b1 : Int) (b1_1 : Int) (b1_2 : Int) (b1_3 : Int) (b1_4 : Int) (b1_5 : Int) (b1_6 : Int) (b1_7 : List (List Cell)) (b1_8 : List (List Cell)) (b1_9 : List (List Cell)) (b1_10 : List (List Cell)) (b1_11 : Bool) (b1_12 : List (List Cell)) (b1_13 : List (List Cell)) (b1_14 : List (List Cell)) (b1_15 : List (List Cell)) (b1_16 : List (List Cell)) (b1_17 : Bool) : St := ⟨[(2, .one (.ptr 0 0)), (4, .one (.ptr 1 0)), (8, .one (.int .i64 t8)), (10, .one (.int .i64 t10)), (11, .one (.int .i64 t11)), (13, .one (.sl false 3 t13)), (14, .one (.int .i64 t14))], [.var [.int .i64 b0, .int .i64 b0_1, .int .i64 b0_2, .int .i64 b0_3, .int .i64 b0_4, .int .i64 b0_5, .int .i64 b0_6, .sl false 93 b0_7, .sl false 93 b0_8, .sl true 93 b0_9, .sl true 93 b0_10, .bool b0_11, .sl true 93 b0_12, .sl true 93 b0_13, .sl true 93 b0_14, .sl true 96 b0_15, .sl true 103 b0_16, .bool b0_17], .var [.int .i64 b1, .int .i64 b1_1, .int .i64 b1_2, .int .i64 b1_3, .int .i64 b1_4, .int .i64 b1_5, .int .i64 b1_6, .sl true 93 b1_7, .sl true 93 b1_8, .sl true 93 b1_9, .sl true 93 b1_10, .bool b1_11, .sl true 93 b1_12, .sl true 93 b1_13, .sl true 93 b1_14, .sl true 96 b1_15, .sl true 103 b1_16, .bool b1_17]]⟩

theorem e36 (m : Nat) (k1 f1 t1 p1 n1 r1 o1 : Int) (h1 m1 : Bool) (x : List (List Cell)) : runF E (callOf L35) (m + 1) 36 [.agg [.int .i64 k1, .int .i64 f1, .int .i64 t1, .int .i64 p1, .int .i64 n1, .int .i64 r1, .int .i64 o1, .nils, .nils, .nils, .nils, .bool h1, .nils, .nils, .nils, .nils, .nils, .bool m1], .one (.sl false 5 x)] [] =
  let z1 := decL (dropN x (Int.toNat (decT x).2.2.1))
  let z3 := IntKind.wrap .i64 ((decT x).2.2.1 + z1.2.1)
  let z2 := Msg.mk k1 f1 t1 p1 n1 r1 o1 (decT x).1 (decT x).2.1 ([] : List (List Cell)) ([] : List (List Cell)) h1 ([] : List (List Cell)) ([] : List (List Cell)) ([] : List (List Cell)) z1.1 ([] : List (List Cell)) (bdec (dropN x (Int.toNat z3))).1
  let z4 := rbW z2 (dropN x (Int.toNat (IntKind.wrap .i64 (z3 + (bdec (dropN x (Int.toNat z3))).2.1))))
  let z5 := rnum2 (dropN x (Int.toNat (decT x).2.2.1))
  let z6 := rread (dropN x (Int.toNat (IntKind.wrap .i64 ((decT x).2.2.1 + z5.2.1)))) (IntKind.wrap .i64 (2 * z5.1))
  (cond (okRd x)
  (cond ((decT x).2.2.2 != 0)
  (some ([.agg [.int .i64 k1, .int .i64 f1, .int .i64 t1, .int .i64 p1, .int .i64 n1, .int .i64 r1, .int .i64 o1, .sl false 93 ([] : List (List Cell)), .sl false 93 ([] : List (List Cell)), .sl false 93 ([] : List (List Cell)), .sl false 93 ([] : List (List Cell)), .bool h1, .sl false 93 ([] : List (List Cell)), .sl false 93 ([] : List (List Cell)), .sl false 93 ([] : List (List Cell)), .sl false 96 ([] : List (List Cell)), .sl false 103 ([] : List (List Cell)), .bool m1], .one (.int .i64 0), .one (.int .i64 (decT x).2.2.2)], []))
  (cond (k1 == 4)
  (cond (inB (decT x).2.2.1 (x.length + 1))
  (cond (okRd (dropN x (Int.toNat (decT x).2.2.1)))
  (cond (z5.2.2 != 0)
  (some ([.agg [.int .i64 k1, .int .i64 f1, .int .i64 t1, .int .i64 p1, .int .i64 n1, .int .i64 r1, .int .i64 o1, .sl false 93 (decT x).1, .sl false 93 (decT x).2.1, .sl false 93 ([] : List (List Cell)), .sl false 93 ([] : List (List Cell)), .bool h1, .sl false 93 ([] : List (List Cell)), .sl false 93 ([] : List (List Cell)), .sl false 93 ([] : List (List Cell)), .sl false 96 ([] : List (List Cell)), .sl false 103 ([] : List (List Cell)), .bool m1], .one (.int .i64 0), .one (.int .i64 z5.2.2)], []))
  (cond (decide (z5.1 > 100))
  (some ([.agg [.int .i64 k1, .int .i64 f1, .int .i64 t1, .int .i64 p1, .int .i64 n1, .int .i64 r1, .int .i64 o1, .sl false 93 (decT x).1, .sl false 93 (decT x).2.1, .sl false 93 ([] : List (List Cell)), .sl false 93 ([] : List (List Cell)), .bool h1, .sl false 93 ([] : List (List Cell)), .sl false 93 ([] : List (List Cell)), .sl false 93 ([] : List (List Cell)), .sl false 96 ([] : List (List Cell)), .sl false 103 ([] : List (List Cell)), .bool m1], .one (.int .i64 0), .one (.int .i64 3)], []))
  (cond (inB (IntKind.wrap .i64 ((decT x).2.2.1 + z5.2.1)) (x.length + 1))
  (cond (okRd (dropN x (Int.toNat (IntKind.wrap .i64 ((decT x).2.2.1 + z5.2.1)))) && decide ((IntKind.wrap .i64 (2 * z5.1)) ≤ 1000))
  (cond (z6.2.2 != 0)
  (some ([.agg [.int .i64 k1, .int .i64 f1, .int .i64 t1, .int .i64 p1, .int .i64 n1, .int .i64 r1, .int .i64 o1, .sl false 93 (decT x).1, .sl false 93 (decT x).2.1, .sl false 93 ([] : List (List Cell)), .sl false 93 ([] : List (List Cell)), .bool h1, .sl false 93 ([] : List (List Cell)), .sl false 93 ([] : List (List Cell)), .sl false 93 ([] : List (List Cell)), .sl false 96 ([] : List (List Cell)), .sl false 103 ([] : List (List Cell)), .bool m1], .one (.int .i64 0), .one (.int .i64 z6.2.2)], []))
  (goF E (callOf L35) F36 0 m P36_0 (M36_0 (IntKind.wrap .i64 ((decT x).2.2.1 + z5.2.1)) z5.1 z6.2.1 z6.1 0 k1 f1 t1 p1 n1 r1 o1 (decT x).1 (decT x).2.1 ([] : List (List Cell)) ([] : List (List Cell)) h1 ([] : List (List Cell)) ([] : List (List Cell)) ([] : List (List Cell)) ([] : List (List Cell)) ([] : List (List Cell)) m1 0 0 0 0 0 0 0 ([] : List (List Cell)) ([] : List (List Cell)) ([] : List (List Cell)) ([] : List (List Cell)) false ([] : List (List Cell)) ([] : List (List Cell)) ([] : List (List Cell)) ([] : List (List Cell)) ([] : List (List Cell)) false)))
  none)
  none)))
  none)
  none)
  (cond (k1 == 5)
  (cond (inB (decT x).2.2.1 (x.length + 1))
  (cond (okRd (dropN x (Int.toNat (decT x).2.2.1)))
  (cond (z1.2.2 != 0)
  (some ([.agg [.int .i64 k1, .int .i64 f1, .int .i64 t1, .int .i64 p1, .int .i64 n1, .int .i64 r1, .int .i64 o1, .sl false 93 (decT x).1, .sl false 93 (decT x).2.1, .sl false 93 ([] : List (List Cell)), .sl false 93 ([] : List (List Cell)), .bool h1, .sl false 93 ([] : List (List Cell)), .sl false 93 ([] : List (List Cell)), .sl false 93 ([] : List (List Cell)), .sl false 96 ([] : List (List Cell)), .sl false 103 ([] : List (List Cell)), .bool m1], .one (.int .i64 0), .one (.int .i64 z1.2.2)], []))
  (cond (inB z3 (x.length + 1))
  (cond (okRd (dropN x (Int.toNat z3)))
  (cond ((bdec (dropN x (Int.toNat z3))).2.2 != 0)
  (some ([.agg [.int .i64 k1, .int .i64 f1, .int .i64 t1, .int .i64 p1, .int .i64 n1, .int .i64 r1, .int .i64 o1, .sl false 93 (decT x).1, .sl false 93 (decT x).2.1, .sl false 93 ([] : List (List Cell)), .sl false 93 ([] : List (List Cell)), .bool h1, .sl false 93 ([] : List (List Cell)), .sl false 93 ([] : List (List Cell)), .sl false 93 ([] : List (List Cell)), .sl false 96 ([] : List (List Cell)), .sl false 103 ([] : List (List Cell)), .bool m1], .one (.int .i64 0), .one (.int .i64 (bdec (dropN x (Int.toNat z3))).2.2)], []))
  (cond (inB (IntKind.wrap .i64 (z3 + (bdec (dropN x (Int.toNat z3))).2.1)) (x.length + 1))
  (cond (okRd (dropN x (Int.toNat (IntKind.wrap .i64 (z3 + (bdec (dropN x (Int.toNat z3))).2.1)))))
  (some ([.agg [.int .i64 z4.1.k, .int .i64 z4.1.f, .int .i64 z4.1.t, .int .i64 z4.1.p, .int .i64 z4.1.n, .int .i64 z4.1.r, .int .i64 z4.1.o, .sl false 93 z4.1.cf, .sl false 93 z4.1.ct, .sl false 93 z4.1.bf, .sl false 93 z4.1.bt, .bool z4.1.h, .sl false 93 z4.1.ef, .sl false 93 z4.1.et, .sl false 93 z4.1.g, .sl false 96 z4.1.u, .sl false 103 z4.1.v, .bool z4.1.m], .one (.int .i64 (IntKind.wrap .i64 ((IntKind.wrap .i64 (z3 + (bdec (dropN x (Int.toNat z3))).2.1)) + z4.2.1))), .one (.int .i64 z4.2.2)], []))
  none)
  none))
  none)
  none))
  none)
  none)
  (some ([.agg [.int .i64 k1, .int .i64 f1, .int .i64 t1, .int .i64 p1, .int .i64 n1, .int .i64 r1, .int .i64 o1, .sl false 93 (decT x).1, .sl false 93 (decT x).2.1, .sl false 93 ([] : List (List Cell)), .sl false 93 ([] : List (List Cell)), .bool h1, .sl false 93 ([] : List (List Cell)), .sl false 93 ([] : List (List Cell)), .sl false 93 ([] : List (List Cell)), .sl false 96 ([] : List (List Cell)), .sl false 103 ([] : List (List Cell)), .bool m1], .one (.int .i64 (decT x).2.2.1), .one (.int .i64 0)], [])))))
  none) := by kernel_rfl

theorem e36_0 (m : Nat) (t8 t10 t11 : Int) (t13 : List (List Cell)) (t14 b0 b0_1 b0_2 b0_3 b0_4 b0_5 b0_6 : Int) (b0_7 b0_8 b0_9 b0_10 : List (List Cell)) (b0_11 : Bool) (b0_12 b0_13 b0_14 b0_15 b0_16 : List (List Cell)) (b0_17 : Bool) (b1 b1_1 b1_2 b1_3 b1_4 b1_5 b1_6 : Int) (b1_7 b1_8 b1_9 b1_10 : List (List Cell)) (b1_11 : Bool) (b1_12 b1_13 b1_14 b1_15 b1_16 : List (List Cell)) (b1_17 : Bool) : goF E (callOf L35) F36 0 (m + 1) P36_0 (M36_0 t8 t10 t11 t13 t14 b0 b0_1 b0_2 b0_3 b0_4 b0_5 b0_6 b0_7 b0_8 b0_9 b0_10 b0_11 b0_12 b0_13 b0_14 b0_15 b0_16 b0_17 b1 b1_1 b1_2 b1_3 b1_4 b1_5 b1_6 b1_7 b1_8 b1_9 b1_10 b1_11 b1_12 b1_13 b1_14 b1_15 b1_16 b1_17) =
  (cond (decide (t14 < t10))
  (cond (inB (IntKind.wrap .i64 (2 * t14)) t13.length)
  (cond (inB (IntKind.wrap .i64 ((IntKind.wrap .i64 (2 * t14)) + 1)) t13.length)
  (cond (fits (b0_16.length + [[Cell.int .i64 (nr (Abs.rowAt t13 (Int.toNat (IntKind.wrap .i64 (2 * t14)))) 0), Cell.int .i64 (nr (Abs.rowAt t13 (Int.toNat (IntKind.wrap .i64 ((IntKind.wrap .i64 (2 * t14)) + 1)))) 0)]].length))
  (goF E (callOf L35) F36 0 m P36_0 (M36_0 t8 t10 t11 t13 (IntKind.wrap .i64 (t14 + 1)) b0 b0_1 b0_2 b0_3 b0_4 b0_5 b0_6 b0_7 b0_8 b0_9 b0_10 b0_11 b0_12 b0_13 b0_14 b0_15 (b0_16 ++ [[Cell.int .i64 (nr (Abs.rowAt t13 (Int.toNat (IntKind.wrap .i64 (2 * t14)))) 0), Cell.int .i64 (nr (Abs.rowAt t13 (Int.toNat (IntKind.wrap .i64 ((IntKind.wrap .i64 (2 * t14)) + 1)))) 0)]]) b0_17 b1 b1_1 b1_2 b1_3 b1_4 b1_5 b1_6 b1_7 b1_8 b1_9 b1_10 b1_11 b1_12 b1_13 b1_14 b1_15 b1_16 b1_17))
  none)
  none)
  none)
  (some ([.agg [.int .i64 b0, .int .i64 b0_1, .int .i64 b0_2, .int .i64 b0_3, .int .i64 b0_4, .int .i64 b0_5, .int .i64 b0_6, .sl false 93 b0_7, .sl false 93 b0_8, .sl false 93 b0_9, .sl false 93 b0_10, .bool b0_11, .sl false 93 b0_12, .sl false 93 b0_13, .sl false 93 b0_14, .sl false 96 b0_15, .sl false 103 b0_16, .bool b0_17], .one (.int .i64 (IntKind.wrap .i64 (t8 + t11))), .one (.int .i64 0)], []))) := by kernel_rfl

theorem e11 (m : Nat) (x : List (List Cell)) : runF E (callOf L36) (m + 1) 11 [.one (.sl false 5 x)] [] =
  let z2 := rread (dropN x (Int.toNat (rnum2 x).2.1)) 2
  let z1 := Msg.mk (rnum2 x).1 (nr (Abs.rowAt z2.1 0) 0) (nr (Abs.rowAt z2.1 1) 0) 0 0 0 0 [] [] [] [] false [] [] [] [] [] false
  let z6 := IntKind.wrap .i64 ((rnum2 x).2.1 + z2.2.1)
  let z3 := dropN x (Int.toNat z6)
  let z4 := vMsg (Msg.mk (rxW z1 z3).1.k (rxW z1 z3).1.f (rxW z1 z3).1.t (rxW z1 z3).1.p (rxW z1 z3).1.n (rxW z1 z3).1.r (rxW z1 z3).1.o (rxW z1 z3).1.cf (rxW z1 z3).1.ct (rxW z1 z3).1.bf (rxW z1 z3).1.bt (rxW z1 z3).1.h (rxW z1 z3).1.ef (rxW z1 z3).1.et (rxW z1 z3).1.g (rxW z1 z3).1.u (rxW z1 z3).1.v (rxW z1 z3).1.m)
  let z5 := vMsg (Msg.mk (rrW z1 z3).1.k (rrW z1 z3).1.f (rrW z1 z3).1.t (rrW z1 z3).1.p (rrW z1 z3).1.n (rrW z1 z3).1.r (rrW z1 z3).1.o (rrW z1 z3).1.cf (rrW z1 z3).1.ct (rrW z1 z3).1.bf (rrW z1 z3).1.bt (rrW z1 z3).1.h (rrW z1 z3).1.ef (rrW z1 z3).1.et (rrW z1 z3).1.g (rrW z1 z3).1.u (rrW z1 z3).1.v (rrW z1 z3).1.m)
  (cond (okRd x)
  (cond ((rnum2 x).2.2 != 0)
  (some ([.agg [.int .i64 0, .int .i64 0, .int .i64 0, .int .i64 0, .int .i64 0, .int .i64 0, .int .i64 0, .sl false 93 ([] : List (List Cell)), .sl false 93 ([] : List (List Cell)), .sl false 93 ([] : List (List Cell)), .sl false 93 ([] : List (List Cell)), .bool false, .sl false 93 ([] : List (List Cell)), .sl false 93 ([] : List (List Cell)), .sl false 93 ([] : List (List Cell)), .sl false 96 ([] : List (List Cell)), .sl false 103 ([] : List (List Cell)), .bool false], .one (.int .i64 0), .one (.int .i64 (rnum2 x).2.2)], []))
  (cond (decide ((rnum2 x).1 < 1))
  (some ([.agg [.int .i64 0, .int .i64 0, .int .i64 0, .int .i64 0, .int .i64 0, .int .i64 0, .int .i64 0, .sl false 93 ([] : List (List Cell)), .sl false 93 ([] : List (List Cell)), .sl false 93 ([] : List (List Cell)), .sl false 93 ([] : List (List Cell)), .bool false, .sl false 93 ([] : List (List Cell)), .sl false 93 ([] : List (List Cell)), .sl false 93 ([] : List (List Cell)), .sl false 96 ([] : List (List Cell)), .sl false 103 ([] : List (List Cell)), .bool false], .one (.int .i64 0), .one (.int .i64 10)], []))
  (cond (decide ((rnum2 x).1 > 8))
  (some ([.agg [.int .i64 0, .int .i64 0, .int .i64 0, .int .i64 0, .int .i64 0, .int .i64 0, .int .i64 0, .sl false 93 ([] : List (List Cell)), .sl false 93 ([] : List (List Cell)), .sl false 93 ([] : List (List Cell)), .sl false 93 ([] : List (List Cell)), .bool false, .sl false 93 ([] : List (List Cell)), .sl false 93 ([] : List (List Cell)), .sl false 93 ([] : List (List Cell)), .sl false 96 ([] : List (List Cell)), .sl false 103 ([] : List (List Cell)), .bool false], .one (.int .i64 0), .one (.int .i64 10)], []))
  (cond (inB (rnum2 x).2.1 (x.length + 1))
  (cond (okRd (dropN x (Int.toNat (rnum2 x).2.1)) && decide (2 ≤ 1000))
  (cond (z2.2.2 != 0)
  (some ([.agg [.int .i64 0, .int .i64 0, .int .i64 0, .int .i64 0, .int .i64 0, .int .i64 0, .int .i64 0, .sl false 93 ([] : List (List Cell)), .sl false 93 ([] : List (List Cell)), .sl false 93 ([] : List (List Cell)), .sl false 93 ([] : List (List Cell)), .bool false, .sl false 93 ([] : List (List Cell)), .sl false 93 ([] : List (List Cell)), .sl false 93 ([] : List (List Cell)), .sl false 96 ([] : List (List Cell)), .sl false 103 ([] : List (List Cell)), .bool false], .one (.int .i64 0), .one (.int .i64 z2.2.2)], []))
  (cond (inB 0 z2.1.length)
  (cond (inB 1 z2.1.length)
  (cond ((rnum2 x).1 == 1)
  (cond (inB z6 (x.length + 1))
  (cond (okRd z3)
  (cond ((rxW z1 z3).2.2 != 0)
  (some ([.agg [.int .i64 0, .int .i64 0, .int .i64 0, .int .i64 0, .int .i64 0, .int .i64 0, .int .i64 0, .sl false 93 ([] : List (List Cell)), .sl false 93 ([] : List (List Cell)), .sl false 93 ([] : List (List Cell)), .sl false 93 ([] : List (List Cell)), .bool false, .sl false 93 ([] : List (List Cell)), .sl false 93 ([] : List (List Cell)), .sl false 93 ([] : List (List Cell)), .sl false 96 ([] : List (List Cell)), .sl false 103 ([] : List (List Cell)), .bool false], .one (.int .i64 0), .one (.int .i64 (rxW z1 z3).2.2)], []))
  (cond (okM (rxW z1 z3).1.cf (rxW z1 z3).1.ct (rxW z1 z3).1.bf (rxW z1 z3).1.bt (rxW z1 z3).1.ef (rxW z1 z3).1.et (rxW z1 z3).1.g (rxW z1 z3).1.u (rxW z1 z3).1.v)
  (cond (z4 != 0)
  (some ([.agg [.int .i64 0, .int .i64 0, .int .i64 0, .int .i64 0, .int .i64 0, .int .i64 0, .int .i64 0, .sl false 93 ([] : List (List Cell)), .sl false 93 ([] : List (List Cell)), .sl false 93 ([] : List (List Cell)), .sl false 93 ([] : List (List Cell)), .bool false, .sl false 93 ([] : List (List Cell)), .sl false 93 ([] : List (List Cell)), .sl false 93 ([] : List (List Cell)), .sl false 96 ([] : List (List Cell)), .sl false 103 ([] : List (List Cell)), .bool false], .one (.int .i64 0), .one (.int .i64 z4)], []))
  (some ([.agg [.int .i64 (rxW z1 z3).1.k, .int .i64 (rxW z1 z3).1.f, .int .i64 (rxW z1 z3).1.t, .int .i64 (rxW z1 z3).1.p, .int .i64 (rxW z1 z3).1.n, .int .i64 (rxW z1 z3).1.r, .int .i64 (rxW z1 z3).1.o, .sl false 93 (rxW z1 z3).1.cf, .sl false 93 (rxW z1 z3).1.ct, .sl false 93 (rxW z1 z3).1.bf, .sl false 93 (rxW z1 z3).1.bt, .bool (rxW z1 z3).1.h, .sl false 93 (rxW z1 z3).1.ef, .sl false 93 (rxW z1 z3).1.et, .sl false 93 (rxW z1 z3).1.g, .sl false 96 (rxW z1 z3).1.u, .sl false 103 (rxW z1 z3).1.v, .bool (rxW z1 z3).1.m], .one (.int .i64 (IntKind.wrap .i64 (z6 + (rxW z1 z3).2.1))), .one (.int .i64 0)], [])))
  none))
  none)
  none)
  (cond ((rnum2 x).1 == 2)
  (cond (inB z6 (x.length + 1))
  (cond (okRd z3)
  (cond ((rxW z1 z3).2.2 != 0)
  (some ([.agg [.int .i64 0, .int .i64 0, .int .i64 0, .int .i64 0, .int .i64 0, .int .i64 0, .int .i64 0, .sl false 93 ([] : List (List Cell)), .sl false 93 ([] : List (List Cell)), .sl false 93 ([] : List (List Cell)), .sl false 93 ([] : List (List Cell)), .bool false, .sl false 93 ([] : List (List Cell)), .sl false 93 ([] : List (List Cell)), .sl false 93 ([] : List (List Cell)), .sl false 96 ([] : List (List Cell)), .sl false 103 ([] : List (List Cell)), .bool false], .one (.int .i64 0), .one (.int .i64 (rxW z1 z3).2.2)], []))
  (cond (okM (rxW z1 z3).1.cf (rxW z1 z3).1.ct (rxW z1 z3).1.bf (rxW z1 z3).1.bt (rxW z1 z3).1.ef (rxW z1 z3).1.et (rxW z1 z3).1.g (rxW z1 z3).1.u (rxW z1 z3).1.v)
  (cond (z4 != 0)
  (some ([.agg [.int .i64 0, .int .i64 0, .int .i64 0, .int .i64 0, .int .i64 0, .int .i64 0, .int .i64 0, .sl false 93 ([] : List (List Cell)), .sl false 93 ([] : List (List Cell)), .sl false 93 ([] : List (List Cell)), .sl false 93 ([] : List (List Cell)), .bool false, .sl false 93 ([] : List (List Cell)), .sl false 93 ([] : List (List Cell)), .sl false 93 ([] : List (List Cell)), .sl false 96 ([] : List (List Cell)), .sl false 103 ([] : List (List Cell)), .bool false], .one (.int .i64 0), .one (.int .i64 z4)], []))
  (some ([.agg [.int .i64 (rxW z1 z3).1.k, .int .i64 (rxW z1 z3).1.f, .int .i64 (rxW z1 z3).1.t, .int .i64 (rxW z1 z3).1.p, .int .i64 (rxW z1 z3).1.n, .int .i64 (rxW z1 z3).1.r, .int .i64 (rxW z1 z3).1.o, .sl false 93 (rxW z1 z3).1.cf, .sl false 93 (rxW z1 z3).1.ct, .sl false 93 (rxW z1 z3).1.bf, .sl false 93 (rxW z1 z3).1.bt, .bool (rxW z1 z3).1.h, .sl false 93 (rxW z1 z3).1.ef, .sl false 93 (rxW z1 z3).1.et, .sl false 93 (rxW z1 z3).1.g, .sl false 96 (rxW z1 z3).1.u, .sl false 103 (rxW z1 z3).1.v, .bool (rxW z1 z3).1.m], .one (.int .i64 (IntKind.wrap .i64 (z6 + (rxW z1 z3).2.1))), .one (.int .i64 0)], [])))
  none))
  none)
  none)
  (cond (inB z6 (x.length + 1))
  (cond (okRd z3)
  (cond ((rrW z1 z3).2.2 != 0)
  (some ([.agg [.int .i64 0, .int .i64 0, .int .i64 0, .int .i64 0, .int .i64 0, .int .i64 0, .int .i64 0, .sl false 93 ([] : List (List Cell)), .sl false 93 ([] : List (List Cell)), .sl false 93 ([] : List (List Cell)), .sl false 93 ([] : List (List Cell)), .bool false, .sl false 93 ([] : List (List Cell)), .sl false 93 ([] : List (List Cell)), .sl false 93 ([] : List (List Cell)), .sl false 96 ([] : List (List Cell)), .sl false 103 ([] : List (List Cell)), .bool false], .one (.int .i64 0), .one (.int .i64 (rrW z1 z3).2.2)], []))
  (cond (okM (rrW z1 z3).1.cf (rrW z1 z3).1.ct (rrW z1 z3).1.bf (rrW z1 z3).1.bt (rrW z1 z3).1.ef (rrW z1 z3).1.et (rrW z1 z3).1.g (rrW z1 z3).1.u (rrW z1 z3).1.v)
  (cond (z5 != 0)
  (some ([.agg [.int .i64 0, .int .i64 0, .int .i64 0, .int .i64 0, .int .i64 0, .int .i64 0, .int .i64 0, .sl false 93 ([] : List (List Cell)), .sl false 93 ([] : List (List Cell)), .sl false 93 ([] : List (List Cell)), .sl false 93 ([] : List (List Cell)), .bool false, .sl false 93 ([] : List (List Cell)), .sl false 93 ([] : List (List Cell)), .sl false 93 ([] : List (List Cell)), .sl false 96 ([] : List (List Cell)), .sl false 103 ([] : List (List Cell)), .bool false], .one (.int .i64 0), .one (.int .i64 z5)], []))
  (some ([.agg [.int .i64 (rrW z1 z3).1.k, .int .i64 (rrW z1 z3).1.f, .int .i64 (rrW z1 z3).1.t, .int .i64 (rrW z1 z3).1.p, .int .i64 (rrW z1 z3).1.n, .int .i64 (rrW z1 z3).1.r, .int .i64 (rrW z1 z3).1.o, .sl false 93 (rrW z1 z3).1.cf, .sl false 93 (rrW z1 z3).1.ct, .sl false 93 (rrW z1 z3).1.bf, .sl false 93 (rrW z1 z3).1.bt, .bool (rrW z1 z3).1.h, .sl false 93 (rrW z1 z3).1.ef, .sl false 93 (rrW z1 z3).1.et, .sl false 93 (rrW z1 z3).1.g, .sl false 96 (rrW z1 z3).1.u, .sl false 103 (rrW z1 z3).1.v, .bool (rrW z1 z3).1.m], .one (.int .i64 (IntKind.wrap .i64 (z6 + (rrW z1 z3).2.1))), .one (.int .i64 0)], [])))
  none))
  none)
  none)))
  none)
  none))
  none)
  none))))
  none) := by kernel_rfl

theorem e12 (m : Nat) (k1 f1 t1 p1 n1 r1 o1 : Int) (cf1 ct1 bf1 bt1 : List (List Cell)) (h1 : Bool) (ef1 et1 g1 u1 v1 : List (List Cell)) (m1 : Bool) (k2 f2 t2 p2 n2 r2 o2 : Int) (cf2 ct2 bf2 bt2 : List (List Cell)) (h2 : Bool) (ef2 et2 g2 u2 v2 : List (List Cell)) (m2 : Bool) : runF E (callOf L11) (m + 1) 12 [.agg [.int .i64 k1, .int .i64 f1, .int .i64 t1, .int .i64 p1, .int .i64 n1, .int .i64 r1, .int .i64 o1, .sl false 93 cf1, .sl false 93 ct1, .sl false 93 bf1, .sl false 93 bt1, .bool h1, .sl false 93 ef1, .sl false 93 et1, .sl false 93 g1, .sl false 96 u1, .sl false 103 v1, .bool m1], .agg [.int .i64 k2, .int .i64 f2, .int .i64 t2, .int .i64 p2, .int .i64 n2, .int .i64 r2, .int .i64 o2, .sl false 93 cf2, .sl false 93 ct2, .sl false 93 bf2, .sl false 93 bt2, .bool h2, .sl false 93 ef2, .sl false 93 et2, .sl false 93 g2, .sl false 96 u2, .sl false 103 v2, .bool m2]] [] =
  (cond (k1 != k2)
  (some ([.one (.bool false)], []))
  (cond (f1 != f2)
  (some ([.one (.bool false)], []))
  (cond (t1 != t2)
  (some ([.one (.bool false)], []))
  (cond (!((p1 == p2) && ((n1 == n2) && true)))
  (some ([.one (.bool false)], []))
  (cond (r1 != r2)
  (some ([.one (.bool false)], []))
  (cond (o1 != o2)
  (some ([.one (.bool false)], []))
  (cond (!(h1 == h2))
  (some ([.one (.bool false)], []))
  (cond (!(m1 == m2))
  (some ([.one (.bool false)], []))
  (cond (okRows cf1 && okRows ct1)
  (cond (eqCfg cf1 cf2 && eqCfg ct1 ct2)
  (cond (okRows bf1 && okRows bt1)
  (cond (eqCfg bf1 bf2 && eqCfg bt1 bt2)
  (cond (okRows ef1 && okRows et1)
  (cond (eqCfg ef1 ef2 && eqCfg et1 et2)
  (cond (okRows g1)
  (cond (eqCfg g1 g2)
  (cond (okRowsU u1)
  (cond (eqSt u1 u2)
  (cond (okLn v1)
  (some ([.one (.bool (eqVec v1 v2))], []))
  none)
  (some ([.one (.bool false)], [])))
  none)
  (some ([.one (.bool false)], [])))
  none)
  (some ([.one (.bool false)], [])))
  none)
  (some ([.one (.bool false)], [])))
  none)
  (some ([.one (.bool false)], [])))
  none))))))))) := by kernel_rfl

theorem e6 (m : Nat) (k1 f1 t1 p1 n1 r1 o1 : Int) (cf1 ct1 bf1 bt1 : List (List Cell)) (h1 : Bool) (ef1 et1 g1 u1 v1 : List (List Cell)) (m1 : Bool) : runF E (callOf L12) (m + 1) 6 [.agg [.int .i64 k1, .int .i64 f1, .int .i64 t1, .int .i64 p1, .int .i64 n1, .int .i64 r1, .int .i64 o1, .sl false 93 cf1, .sl false 93 ct1, .sl false 93 bf1, .sl false 93 bt1, .bool h1, .sl false 93 ef1, .sl false 93 et1, .sl false 93 g1, .sl false 96 u1, .sl false 103 v1, .bool m1]] [] =
  (cond (decide ((g1.length : Int) ≤ 30))
  (cond (decide ((u1.length : Int) ≤ 60))
  (cond (decide ((v1.length : Int) ≤ 60))
  (cond (decide ((cf1.length : Int) ≤ 30))
  (cond (decide ((ct1.length : Int) ≤ 30))
  (cond (decide ((bf1.length : Int) ≤ 30))
  (cond (decide ((bt1.length : Int) ≤ 30))
  (cond (decide ((ef1.length : Int) ≤ 30))
  (some ([.one (.bool (decide ((et1.length : Int) ≤ 30)))], []))
  (some ([.one (.bool false)], [])))
  (some ([.one (.bool false)], [])))
  (some ([.one (.bool false)], [])))
  (some ([.one (.bool false)], [])))
  (some ([.one (.bool false)], [])))
  (some ([.one (.bool false)], [])))
  (some ([.one (.bool false)], [])))
  (some ([.one (.bool false)], []))) := by kernel_rfl

theorem e3 (m : Nat) (k1 f1 t1 p1 n1 r1 o1 : Int) (cf1 ct1 bf1 bt1 : List (List Cell)) (h1 : Bool) (ef1 et1 g1 u1 v1 : List (List Cell)) (m1 : Bool) : runF E (callOf L7) (m + 1) 3 [.agg [.int .i64 k1, .int .i64 f1, .int .i64 t1, .int .i64 p1, .int .i64 n1, .int .i64 r1, .int .i64 o1, .sl false 93 cf1, .sl false 93 ct1, .sl false 93 bf1, .sl false 93 bt1, .bool h1, .sl false 93 ef1, .sl false 93 et1, .sl false 93 g1, .sl false 96 u1, .sl false 103 v1, .bool m1]] [] =
  (cond (!(shortM cf1 ct1 bf1 bt1 ef1 et1 g1 u1 v1))
  (some ([.one (.bool true)], []))
  (cond (okM cf1 ct1 bf1 bt1 ef1 et1 g1 u1 v1)
  (cond (okM cf1 ct1 bf1 bt1 ef1 et1 g1 u1 v1)
  (cond ((vMsg (Msg.mk k1 f1 t1 p1 n1 r1 o1 cf1 ct1 bf1 bt1 h1 ef1 et1 g1 u1 v1 m1)) == (vMsg (Msg.mk k1 f1 t1 p1 n1 r1 o1 cf1 ct1 bf1 bt1 h1 ef1 et1 g1 u1 v1 m1)))
  (some ([.one (.bool true)], []))
  (some ([.one (.bool false)], [])))
  none)
  none)) := by kernel_rfl

theorem e4 (m : Nat) (x : List (List Cell)) : runF E (callOf L3) (m + 1) 4 [.one (.sl false 5 x)] [] =
  (cond (decide ((x.length : Int) > 600))
  (some ([.one (.bool true)], []))
  (cond (okRd x)
  (cond (okRd x)
  (cond (okM (decM x).1.cf (decM x).1.ct (decM x).1.bf (decM x).1.bt (decM x).1.ef (decM x).1.et (decM x).1.g (decM x).1.u (decM x).1.v)
  (cond (eqM (decM x).1.k (decM x).1.f (decM x).1.t (decM x).1.p (decM x).1.n (decM x).1.r (decM x).1.o (decM x).1.cf (decM x).1.ct (decM x).1.bf (decM x).1.bt (decM x).1.h (decM x).1.ef (decM x).1.et (decM x).1.g (decM x).1.u (decM x).1.v (decM x).1.m (decM x).1.k (decM x).1.f (decM x).1.t (decM x).1.p (decM x).1.n (decM x).1.r (decM x).1.o (decM x).1.cf (decM x).1.ct (decM x).1.bf (decM x).1.bt (decM x).1.h (decM x).1.ef (decM x).1.et (decM x).1.g (decM x).1.u (decM x).1.v (decM x).1.m)
  (cond ((decM x).2.1 == (decM x).2.1)
  (cond ((decM x).2.2 == (decM x).2.2)
  (some ([.one (.bool true)], []))
  (some ([.one (.bool false)], [])))
  (some ([.one (.bool false)], [])))
  (some ([.one (.bool false)], [])))
  none)
  none)
  none)) := by kernel_rfl

end Go.Proofs.YtejimgikldiajaaGreat
