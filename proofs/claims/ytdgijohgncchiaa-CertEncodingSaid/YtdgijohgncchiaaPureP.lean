/-
  The contracts of the functions that this seat shares with that of the proposals.
-/
import Derived.Test.YtdgijohgncchiaaEq1
import Derived.Test.YtdgijohgncchiaaEq2
namespace Go.Proofs.Ytdgijohgncchiaa
open Go.Abs

theorem k90 (n lo hi : Int) (u : Bool) : runF E (callOf L) 1 90 [.one (.int .i64 n), .one (.int .i64 lo), .one (.int .i64 hi), .one (.bool u)] [] = some ([.one (.bool (within n lo hi u))], []) := by
  rw [e90]; unfold within
  cases u
  · rfl
  · generalize decide (n ≥ lo) = b
    cases b <;> rfl

theorem k93 (n : Int) : runF E (callOf L91) 1 93 [.one (.int .i64 n)] [] = some ([.one (.bool (isServer n))], []) := by
  rw [e93]; unfold isServer
  generalize decide (n ≥ 1) = b
  cases b <;> rfl

theorem k81 (n : Int) : runF E (callOf L93) 1 81 [.one (.int .i64 n)] [] = some ([.one (.bool (isAdmin n))], []) := by
  rw [e81]; unfold isAdmin
  generalize decide (n ≥ 201) = b
  cases b <;> rfl

theorem k91 (k c f : Int) : runF E (callOf L90) 1 91 [.agg [.int .i64 k, .int .i64 c, .int .i64 f]] [] = some ([.one (.int .i64 (vRule k c f))], []) := by
  rw [e91]
  repeat' (refine cs (fun _ => ?_) (fun _ => ?_))
  all_goals refine congrArg (fun z => some ([AV.one (AC.int .i64 z)], ([] : List Block))) ?_
  all_goals simp only [Bool.not_eq_true', Bool.not_eq_false', bne_iff_ne, bne_eq_false_iff_eq, decide_eq_true_eq, beq_iff_eq, beq_eq_false_iff_ne, decide_eq_false_iff_not, Bool.and_eq_true, Bool.and_eq_false_iff] at *
  all_goals (unfold vRule; (repeat' split) <;> omega)

theorem k94 (k c f : Int) : runF E (callOf L81) 1 94 [.agg [.int .i64 k, .int .i64 c, .int .i64 f]] [] = some ([.one (.int .i64 (vRule k c f))], []) := by
  rw [e94]
  repeat' (refine cs (fun _ => ?_) (fun _ => ?_))
  all_goals refine congrArg (fun z => some ([AV.one (AC.int .i64 z)], ([] : List Block))) ?_
  all_goals simp only [isServer, Bool.not_eq_true', Bool.not_eq_false', bne_iff_ne, bne_eq_false_iff_eq, decide_eq_true_eq, beq_iff_eq, beq_eq_false_iff_ne, decide_eq_false_iff_not, Bool.and_eq_true, Bool.and_eq_false_iff] at *
  all_goals (unfold vRule; (repeat' split) <;> omega)

theorem within_t {n lo hi : Int} {u : Bool} : within n lo hi u = true ↔ (u = true ∧ lo ≤ n ∧ n ≤ hi) ∨ (u = false ∧ n = 0) := by
  unfold within
  cases u <;> simp

theorem within_f {n lo hi : Int} {u : Bool} : within n lo hi u = false ↔ (u = true ∧ ¬ (lo ≤ n ∧ n ≤ hi)) ∨ (u = false ∧ n ≠ 0) := by
  unfold within
  cases u <;> simp

theorem k76 (k s w v rk rc rf : Int) : runF E (callOf L94) 1 76 [.agg [.int .i64 k, .int .i64 s, .int .i64 w, .int .i64 v, .int .i64 rk, .int .i64 rc, .int .i64 rf]] [] = some ([.one (.int .i64 (vChange k s w v rk rc rf))], []) := by
  rw [e76]
  repeat' (refine cs (fun _ => ?_) (fun _ => ?_))
  all_goals refine congrArg (fun z => some ([AV.one (AC.int .i64 z)], ([] : List Block))) ?_
  all_goals simp only [within_t, within_f, Bool.not_eq_true', Bool.not_eq_false', bne_iff_ne, bne_eq_false_iff_eq, decide_eq_true_eq, beq_iff_eq, beq_eq_false_iff_ne, decide_eq_false_iff_not, Bool.and_eq_true, Bool.and_eq_false_iff, Bool.true_eq_false, Bool.false_eq_true, and_true, true_and, false_and, or_false, false_or] at *
  all_goals (unfold vChange; (repeat' split) <;> omega)

def tail11 (t6 : Bool) (b4 b5 b6 : Int) : Int := if t6 = true then vRule b4 b5 b6 else if b4 = 0 ∧ b5 = 0 ∧ b6 = 0 then 0 else 2

theorem k82_3 (t6 t77 : Bool) (b0 b1 b2 b3 b4 b5 b6 : Int) : goF E (callOf L76) F82 0 2 P82_3 (M82_3 t6 t77 b0 b1 b2 b3 b4 b5 b6) = some ([.one (.int .i64 (if t77 = true then 9 else tail11 t6 b4 b5 b6))], []) := by
  rw [e82_3, e82_4]
  unfold tail11
  cases t77 <;> cases t6 <;> try rfl
  simp only [cond_false, Bool.false_eq_true, if_false]
  refine cs (fun h => ?_) (fun h => ?_)
  · simp at h; rw [if_neg (by omega)]
  · simp at h; rw [if_pos (by omega)]

theorem k82_2 (t3 t4 t5 t6 t : Bool) (b0 b1 b2 b3 b4 b5 b6 : Int) : goF E (callOf L76) F82 0 3 P82_2 (M82_2 t3 t4 t5 t6 t b0 b1 b2 b3 b4 b5 b6) =
    some ([.one (.int .i64 (if t = true ∨ ((t5 = true ∨ t6 = true) ∧ (b3 < 1 ∨ 1000 < b3)) ∨ ((t3 = true ∨ t4 = true) ∧ b3 ≠ 0) then 9 else tail11 t6 b4 b5 b6))], []) := by
  rw [e82_2]
  simp only [k82_3]
  cases t <;> cases t5 <;> cases t6 <;> cases t3 <;> cases t4
  all_goals simp only [cond_true, cond_false]
  all_goals repeat' (refine cs (fun _ => ?_) (fun _ => ?_))
  all_goals refine congrArg (fun z => some ([AV.one (AC.int .i64 z)], ([] : List Block))) ?_
  all_goals simp only [bne_iff_ne, decide_eq_true_eq, decide_eq_false_iff_not, Bool.true_eq_false, Bool.false_eq_true, and_true, true_and, false_and, or_false, false_or, true_or, or_true, if_true, if_false, or_self, ne_eq] at *
  all_goals ((repeat' split) <;> first | rfl | omega)

theorem k82_1 (t3 t4 t5 t6 t : Bool) (b0 b1 b2 b3 b4 b5 b6 : Int) : goF E (callOf L76) F82 0 4 P82_1 (M82_1 t3 t4 t5 t6 t b0 b1 b2 b3 b4 b5 b6) =
    some ([.one (.int .i64 (if t = true ∨ ((t3 = true ∨ t5 = true) ∧ (b2 < 1 ∨ 9 < b2)) ∨ ((t4 = true ∨ t6 = true) ∧ b2 ≠ 0) ∨ ((t5 = true ∨ t6 = true) ∧ (b3 < 1 ∨ 1000 < b3)) ∨ ((t3 = true ∨ t4 = true) ∧ b3 ≠ 0) then 9 else tail11 t6 b4 b5 b6))], []) := by
  rw [e82_1]
  simp only [k82_2]
  cases t <;> cases t5 <;> cases t6 <;> cases t3 <;> cases t4
  all_goals simp only [cond_true, cond_false]
  all_goals repeat' (refine cs (fun _ => ?_) (fun _ => ?_))
  all_goals refine congrArg (fun z => some ([AV.one (AC.int .i64 z)], ([] : List Block))) ?_
  all_goals simp only [bne_iff_ne, decide_eq_true_eq, decide_eq_false_iff_not, Bool.true_eq_false, Bool.false_eq_true, and_true, true_and, false_and, or_false, false_or, true_or, or_true, if_true, if_false, or_self, ne_eq] at *
  all_goals ((repeat' split) <;> first | rfl | omega)

theorem k82 (k s w v rk rc rf : Int) : runF E (callOf L76) 6 82 [.agg [.int .i64 k, .int .i64 s, .int .i64 w, .int .i64 v, .int .i64 rk, .int .i64 rc, .int .i64 rf]] [] = some ([.one (.int .i64 (vChange k s w v rk rc rf))], []) := by
  rw [e82]
  simp only [e82_0, k82_1]
  by_cases h1 : k = 1
  · subst h1
    simp only [Int.reduceBEq, Bool.not_true, Bool.not_false, cond_true, cond_false, isServer]
    repeat' (refine cs (fun _ => ?_) (fun _ => ?_))
    all_goals refine congrArg (fun z => some ([AV.one (AC.int .i64 z)], ([] : List Block))) ?_
    all_goals simp only [tail11, Bool.not_eq_true', Bool.not_eq_false', bne_iff_ne, bne_eq_false_iff_eq, decide_eq_true_eq, decide_eq_false_iff_not, Bool.and_eq_true, Bool.and_eq_false_iff, Bool.true_eq_false, Bool.false_eq_true, and_true, true_and, false_and, or_false, false_or, true_or, or_true, if_true, if_false, or_self, ne_eq] at *
    all_goals (unfold vChange; (repeat' split) <;> omega)
  by_cases h2 : k = 2
  · subst h2
    simp only [Int.reduceBEq, Bool.not_true, Bool.not_false, cond_true, cond_false, isServer]
    repeat' (refine cs (fun _ => ?_) (fun _ => ?_))
    all_goals refine congrArg (fun z => some ([AV.one (AC.int .i64 z)], ([] : List Block))) ?_
    all_goals simp only [tail11, Bool.not_eq_true', Bool.not_eq_false', bne_iff_ne, bne_eq_false_iff_eq, decide_eq_true_eq, decide_eq_false_iff_not, Bool.and_eq_true, Bool.and_eq_false_iff, Bool.true_eq_false, Bool.false_eq_true, and_true, true_and, false_and, or_false, false_or, true_or, or_true, if_true, if_false, or_self, ne_eq] at *
    all_goals (unfold vChange; (repeat' split) <;> omega)
  by_cases h3 : k = 3
  · subst h3
    simp only [Int.reduceBEq, Bool.not_true, Bool.not_false, cond_true, cond_false, isServer]
    repeat' (refine cs (fun _ => ?_) (fun _ => ?_))
    all_goals refine congrArg (fun z => some ([AV.one (AC.int .i64 z)], ([] : List Block))) ?_
    all_goals simp only [tail11, Bool.not_eq_true', Bool.not_eq_false', bne_iff_ne, bne_eq_false_iff_eq, decide_eq_true_eq, decide_eq_false_iff_not, Bool.and_eq_true, Bool.and_eq_false_iff, Bool.true_eq_false, Bool.false_eq_true, and_true, true_and, false_and, or_false, false_or, true_or, or_true, if_true, if_false, or_self, ne_eq] at *
    all_goals (unfold vChange; (repeat' split) <;> omega)
  by_cases h4 : k = 4
  · subst h4
    simp only [Int.reduceBEq, Bool.not_true, Bool.not_false, cond_true, cond_false, isServer]
    repeat' (refine cs (fun _ => ?_) (fun _ => ?_))
    all_goals refine congrArg (fun z => some ([AV.one (AC.int .i64 z)], ([] : List Block))) ?_
    all_goals simp only [tail11, Bool.not_eq_true', Bool.not_eq_false', bne_iff_ne, bne_eq_false_iff_eq, decide_eq_true_eq, decide_eq_false_iff_not, Bool.and_eq_true, Bool.and_eq_false_iff, Bool.true_eq_false, Bool.false_eq_true, and_true, true_and, false_and, or_false, false_or, true_or, or_true, if_true, if_false, or_self, ne_eq] at *
    all_goals (unfold vChange; (repeat' split) <;> omega)
  · have g1 : (k == 1) = false := by simpa using h1
    have g2 : (k == 2) = false := by simpa using h2
    have g3 : (k == 3) = false := by simpa using h3
    have g4 : (k == 4) = false := by simpa using h4
    simp only [g1, g2, g3, g4, Bool.not_false, cond_true]
    refine congrArg (fun z => some ([AV.one (AC.int .i64 z)], ([] : List Block))) ?_
    unfold vChange
    rw [if_pos (by omega)]

theorem nat_wrap {i n : Nat} (h : i < n) (hn : n < 9223372036854775808) : IntKind.i64.wrap ((i : Int) + 1) = ((i + 1 : Nat) : Int) := by
  rw [wrap64 (by omega) (by omega)]
  omega

theorem in53 (c : List (List Cell)) (ap np : Int) (hc : c.length < 9223372036854775808) (i : Nat) (hi : i < c.length) (q0 q1 q2 q3 q4 q5 q6 : Int) (R : List AV × List Block)
    (hr : ∃ m, goF E (callOf L82) F53 0 m P53_0 (M53_0 c c.length ((i + 1 : Nat) : Int) ap np c) = some R) : ∀ (d j : Nat), j + d = i →
    ∃ m, goF E (callOf L82) F53 0 m P53_1 (M53_1 c c.length i (c.take i) i j ap np c q0 q1 q2 q3 q4 q5 q6) =
      some (if ((c.take i).drop j).any (fun q => (nr q 0 == q0) && (nr q 1 == q1)) = true then ([.one (.int .i64 5)], []) else R)
  | 0, j, hj => by
    have : j = i := by omega
    subst this
    obtain ⟨m, hm⟩ := hr
    refine ⟨m + 1, ?_⟩
    rw [e53_1]
    refine cf (by simp) ?_
    rw [nat_wrap hi hc, hm]
    have : (c.take j).drop j = [] := List.drop_eq_nil_of_le (by simp; omega)
    simp [this]
  | d + 1, j, hj => by
    have hlen : (c.take i).length = i := by simp; omega
    obtain ⟨m, hm⟩ := in53 c ap np hc i hi q0 q1 q2 q3 q4 q5 q6 R hr d (j + 1) (by omega)
    refine ⟨m + 1, ?_⟩
    rw [e53_1]
    refine ct (by simp; omega) (ct (inB_nat' (by omega)) ?_)
    rw [drop_cons (c.take i) j (by omega), List.any_cons, Int.toNat_natCast, nat_wrap (n := i) (by omega) (by omega), hm]
    show cond (nr (Abs.rowAt (c.take i) j) 0 == q0) (cond (nr (Abs.rowAt (c.take i) j) 1 == q1) _ _) _ = _
    generalize (nr (Abs.rowAt (c.take i) j) 0 == q0) = b1
    generalize (nr (Abs.rowAt (c.take i) j) 1 == q1) = b2
    cases b1 <;> cases b2 <;> simp

theorem out53 (c : List (List Cell)) (ap np : Int) (hc : c.length < 9223372036854775808) : ∀ (d i : Nat), i + d = c.length →
    ∃ m, goF E (callOf L82) F53 0 m P53_0 (M53_0 c c.length i ap np c) = some ([.one (.int .i64 (vChs (c.take i) (c.drop i)))], [])
  | 0, i, hi => by
    refine ⟨1, ?_⟩
    rw [e53_0]
    refine cf (by simp; omega) ?_
    have : c.drop i = [] := List.drop_eq_nil_of_le (by omega)
    rw [this, vChs]
  | d + 1, i, hi => by
    have hlen : (c.take i).length = i := by simp; omega
    obtain ⟨m, hm⟩ := in53 c ap np hc i (by omega) (nr (Abs.rowAt c i) 0) (nr (Abs.rowAt c i) 1) (nr (Abs.rowAt c i) 2) (nr (Abs.rowAt c i) 3) (nr (Abs.rowAt c i) 4) (nr (Abs.rowAt c i) 5) (nr (Abs.rowAt c i) 6) _ (out53 c ap np hc d (i + 1) (by omega)) i 0 (by omega)
    refine ⟨m + 1, ?_⟩
    rw [e53_0]
    refine ct (by simp; omega) (ct (inB_nat' (by omega)) ?_)
    rw [drop_cons c i (by omega), vChs, Int.toNat_natCast]
    show cond (vChR (Abs.rowAt c i) != 0) (some ([AV.one (AC.int .i64 (vChR (Abs.rowAt c i)))], ([] : List Block))) _ = _
    by_cases h0 : vChR (Abs.rowAt c i) = 0
    · rw [if_neg (by simpa using h0)]
      refine cf (by simpa using h0) (ct (inB_of (by omega) (by omega)) ?_)
      rw [takeN_eq, hlen]
      refine Eq.trans hm ?_
      rw [take_snoc c i (by omega), List.drop_zero]
      show some (if dup (c.take i) (Abs.rowAt c i) = true then _ else _) = _
      split <;> rfl
    · rw [if_pos h0]
      exact ct (by simpa using h0) rfl

theorem k53 (a n : Int) (c : List (List Cell)) (hc : c.length < 9223372036854775808) : ∃ m, runF E (callOf L82) m 53 [.agg [.int .i64 a, .int .i64 n, .sl false 50 c]] [] = some ([.one (.int .i64 (vProp a n c))], []) := by
  obtain ⟨m, hm⟩ := out53 c a n hc c.length 0 (by omega)
  refine ⟨m + 1, ?_⟩
  rw [e53]
  rw [List.take_zero, List.drop_zero] at hm
  rw [show (0 : Int) = ((0 : Nat) : Int) from rfl, hm]
  repeat' (refine cs (fun _ => ?_) (fun _ => ?_))
  all_goals refine congrArg (fun z => some ([AV.one (AC.int .i64 z)], ([] : List Block))) ?_
  all_goals simp only [bne_iff_ne, beq_iff_eq, beq_eq_false_iff_ne, decide_eq_true_eq, decide_eq_false_iff_not, ne_eq] at *
  all_goals (unfold vProp; (repeat' split) <;> omega)

theorem in58 (c : List (List Cell)) (ap np : Int) (hc : c.length < 9223372036854775808) (i : Nat) (hi : i < c.length) (R : List AV × List Block)
    (hr : ∃ m, goF E (callOf L53) F58 0 m P58_2 (M58_2 ((i + 1 : Nat) : Int) ap np c) = some R) : ∀ (d j : Nat), j + d = i →
    ∃ m, goF E (callOf L53) F58 0 m P58_6 (M58_6 i j ap np c) =
      some (if ((c.take i).drop j).any (sameCh (Abs.rowAt c i)) = true then ([.one (.int .i64 5)], []) else R)
  | 0, j, hj => by
    have : j = i := by omega
    subst this
    obtain ⟨m, hm⟩ := hr
    refine ⟨m + 2, ?_⟩
    rw [e58_6]
    refine cf (by simp) ?_
    rw [e58_8, nat_wrap hi hc, hm]
    have : (c.take j).drop j = [] := List.drop_eq_nil_of_le (by simp; omega)
    simp [this]
  | d + 1, j, hj => by
    have hlen : (c.take i).length = i := by simp; omega
    obtain ⟨m, hm⟩ := in58 c ap np hc i hi R hr d (j + 1) (by omega)
    refine ⟨m + 4, ?_⟩
    rw [e58_6]
    refine ct (by simp; omega) ?_
    rw [e58_7]
    refine ct (inB_nat' (by omega)) (ct (inB_nat' (by omega)) ?_)
    rw [drop_cons (c.take i) j (by omega), List.any_cons, rowAt_take c i j (by omega), Int.toNat_natCast, Int.toNat_natCast]
    have hn : goF E (callOf L53) F58 0 (m + 1) P58_10 (M58_10 i j ap np c) = some (if ((c.take i).drop (j + 1)).any (sameCh (Abs.rowAt c i)) = true then ([.one (.int .i64 5)], []) else R) := by
      rw [e58_10, nat_wrap (n := i) (by omega) (by omega), hm]
    simp only [e58_9, hn]
    unfold sameCh
    show cond (nr (Abs.rowAt c j) 0 == nr (Abs.rowAt c i) 0) (cond _ (cond _ (cond (nr (Abs.rowAt c j) 1 == nr (Abs.rowAt c i) 1) _ _) _) _) _ = _
    rw [inB_nat' (by omega : j < c.length), inB_nat' (by omega : i < c.length)]
    generalize (nr (Abs.rowAt c j) 0 == nr (Abs.rowAt c i) 0) = b1
    generalize (nr (Abs.rowAt c j) 1 == nr (Abs.rowAt c i) 1) = b2
    cases b1 <;> cases b2 <;> simp

theorem out58 (c : List (List Cell)) (ap np : Int) (hc : c.length < 9223372036854775808) : ∀ (d i : Nat), i + d = c.length →
    ∃ m, goF E (callOf L53) F58 0 m P58_2 (M58_2 i ap np c) = some ([.one (.int .i64 (vChs (c.take i) (c.drop i)))], [])
  | 0, i, hi => by
    refine ⟨2, ?_⟩
    rw [e58_2]
    refine cf (by simp; omega) ?_
    have : c.drop i = [] := List.drop_eq_nil_of_le (by omega)
    rw [this, vChs, e58_4]
  | d + 1, i, hi => by
    have hlen : (c.take i).length = i := by simp; omega
    obtain ⟨m, hm⟩ := in58 c ap np hc i (by omega) _ (out58 c ap np hc d (i + 1) (by omega)) i 0 (by omega)
    refine ⟨m + 3, ?_⟩
    rw [e58_2]
    refine ct (by simp; omega) ?_
    rw [e58_3]
    refine ct (inB_nat' (by omega)) ?_
    rw [drop_cons c i (by omega), vChs, Int.toNat_natCast]
    show cond (vChR (Abs.rowAt c i) != 0) (some ([AV.one (AC.int .i64 (vChR (Abs.rowAt c i)))], ([] : List Block))) _ = _
    by_cases h0 : vChR (Abs.rowAt c i) = 0
    · rw [if_neg (by simpa using h0)]
      refine cf (by simpa using h0) ?_
      rw [e58_5]
      refine Eq.trans hm ?_
      rw [take_snoc c i (by omega), List.drop_zero]
      show some (if dup (c.take i) (Abs.rowAt c i) = true then _ else _) = _
      split <;> rfl
    · rw [if_pos h0]
      exact ct (by simpa using h0) rfl

theorem k58 (a n : Int) (c : List (List Cell)) (hc : c.length < 9223372036854775808) : ∃ m, runF E (callOf L53) m 58 [.agg [.int .i64 a, .int .i64 n, .sl false 50 c]] [] = some ([.one (.int .i64 (vProp a n c))], []) := by
  obtain ⟨m, hm⟩ := out58 c a n hc c.length 0 (by omega)
  refine ⟨m + 3, ?_⟩
  rw [e58]
  rw [List.take_zero, List.drop_zero] at hm
  simp only [e58_0, e58_1, show (0 : Int) = ((0 : Nat) : Int) from rfl, hm]
  simp only [isAdmin]
  repeat' (refine cs (fun _ => ?_) (fun _ => ?_))
  all_goals refine congrArg (fun z => some ([AV.one (AC.int .i64 z)], ([] : List Block))) ?_
  all_goals simp only [bne_iff_ne, beq_iff_eq, beq_eq_false_iff_ne, decide_eq_true_eq, decide_eq_false_iff_not, ne_eq, Bool.not_eq_true', Bool.not_eq_false', Bool.and_eq_true, Bool.and_eq_false_iff, Bool.true_eq_false, Bool.false_eq_true] at *
  all_goals (unfold vProp; (repeat' split) <;> omega)

theorem k92 (n : Int) : runF E (callOf L58) 1 92 [.one (.int .i64 n)] [] = some ([.one (.bool false)], []) := by
  rw [e92]; simp

theorem k78 (x y : Int) : runF E (callOf L92) 1 78 [.one (.int .i64 x), .one (.int .i64 y)] [] = some ([.one (.int .i64 (cmpI x y))], []) := by
  rw [e78]
  repeat' (refine cs (fun _ => ?_) (fun _ => ?_))
  all_goals refine congrArg (fun z => some ([AV.one (AC.int .i64 z)], ([] : List Block))) ?_
  all_goals simp only [decide_eq_true_eq, decide_eq_false_iff_not, Bool.true_eq_false, Bool.false_eq_true] at *
  all_goals (unfold cmpI; (repeat' split) <;> omega)

theorem l77 (l : List (List Cell)) (hl : l.length < 9223372036854775808) : ∀ (d i : Nat), i + d = l.length →
    ∃ m, goF E (callOf L78) F77 0 m P77_0 (M77_0 0 l l.length i) = some ([.one (.int .i64 (orI1 (l.drop i)))], [])
  | 0, i, hi => by
    refine ⟨1, ?_⟩
    rw [e77_0]
    refine cf (by simp; omega) ?_
    have : l.drop i = [] := List.drop_eq_nil_of_le (by omega)
    rw [this, orI1]
  | d + 1, i, hi => by
    obtain ⟨m, hm⟩ := l77 l hl d (i + 1) (by omega)
    refine ⟨m + 1, ?_⟩
    rw [e77_0]
    refine ct (by simp; omega) (ct (inB_nat' (by omega)) ?_)
    rw [drop_cons l i (by omega), orI1, Int.toNat_natCast, nat_wrap (n := l.length) (by omega) hl, hm]
    show cond (nr (Abs.rowAt l i) 0 != 0) (some ([AV.one (AC.int .i64 (nr (Abs.rowAt l i) 0))], ([] : List Block))) _ = _
    by_cases h0 : nr (Abs.rowAt l i) 0 = 0
    · rw [if_neg (by simpa using h0)]
      exact cf (by simpa using h0) rfl
    · rw [if_pos h0]
      exact ct (by simpa using h0) rfl

theorem k77 (l : List (List Cell)) (hl : l.length < 9223372036854775808) : ∃ m, runF E (callOf L78) m 77 [.one (.sl false 3 l)] [] = some ([.one (.int .i64 (orI1 l))], []) := by
  obtain ⟨m, hm⟩ := l77 l hl l.length 0 (by omega)
  exact ⟨m + 1, by rw [e77]; exact hm⟩

theorem k54 (a n : Int) (c : List (List Cell)) (b k : Int) (d : List (List Cell)) : runF E (callOf L77) 1 54 [.agg [.int .i64 a, .int .i64 n, .sl false 50 c], .agg [.int .i64 b, .int .i64 k, .sl false 50 d]] [] = some ([.one (.int .i64 (cmpP a n b k))], []) := by
  rw [e54]
  refine ct (by simp) ?_
  refine congrArg (fun z => some ([AV.one (AC.int .i64 z)], ([] : List Block))) ?_
  simp only [orI1, nr, cellAt, Cell.toInt, cmpI, cmpP]
  (repeat' split) <;> omega

theorem k59 (a n : Int) (c : List (List Cell)) (b k : Int) (d : List (List Cell)) : runF E (callOf L54) 1 59 [.agg [.int .i64 a, .int .i64 n, .sl false 50 c], .agg [.int .i64 b, .int .i64 k, .sl false 50 d]] [] = some ([.one (.int .i64 (cmpP a n b k))], []) := by
  rw [e59]
  repeat' (refine cs (fun _ => ?_) (fun _ => ?_))
  all_goals refine congrArg (fun z => some ([AV.one (AC.int .i64 z)], ([] : List Block))) ?_
  all_goals simp only [beq_iff_eq, beq_eq_false_iff_ne, decide_eq_true_eq, decide_eq_false_iff_not, ne_eq] at *
  all_goals (unfold cmpP; (repeat' split) <;> omega)

theorem k80 (k1 s1 w1 v1 rk1 rc1 rf1 k2 s2 w2 v2 rk2 rc2 rf2 : Int) : runF E (callOf L24) 1 80 [.agg [.int .i64 k1, .int .i64 s1, .int .i64 w1, .int .i64 v1, .int .i64 rk1, .int .i64 rc1, .int .i64 rf1], .agg [.int .i64 k2, .int .i64 s2, .int .i64 w2, .int .i64 v2, .int .i64 rk2, .int .i64 rc2, .int .i64 rf2]] [] =
    some ([.one (.bool (eqCh k1 s1 w1 v1 rk1 rc1 rf1 k2 s2 w2 v2 rk2 rc2 rf2))], []) := by
  rw [e80]
  unfold eqCh
  generalize (k1 == k2) = b1
  generalize (s1 == s2) = b2
  generalize (w1 == w2) = b3
  generalize (v1 == v2) = b4
  generalize (rk1 == rk2) = b5
  generalize (rc1 == rc2) = b6
  generalize (rf1 == rf2) = b7
  cases b1 <;> cases b2 <;> cases b3 <;> cases b4 <;> cases b5 <;> cases b6 <;> cases b7 <;> rfl

theorem l57 (c d : List (List Cell)) (b k : Int) (hc : c.length < 9223372036854775808) (hd : c.length = d.length) : ∀ (e i : Nat), i + e = c.length →
    ∃ m, goF E (callOf L80) F57 0 m P57_0 (M57_0 c c.length i b k d) = some ([.one (.bool (eqChs (c.drop i) (d.drop i)))], [])
  | 0, i, hi => by
    refine ⟨1, ?_⟩
    rw [e57_0]
    refine cf (by simp; omega) ?_
    have : c.drop i = [] := List.drop_eq_nil_of_le (by omega)
    rw [this, eqChs]
  | e + 1, i, hi => by
    obtain ⟨m, hm⟩ := l57 c d b k hc hd e (i + 1) (by omega)
    refine ⟨m + 1, ?_⟩
    rw [e57_0]
    refine ct (by simp; omega) (ct (inB_nat' (by omega)) (ct (inB_nat' (by omega)) ?_))
    rw [drop_cons c i (by omega), eqChs, Int.toNat_natCast, nat_wrap (n := c.length) (by omega) hc, hm, rowAt_drop, List.drop_drop, Nat.add_zero]
    show cond (!(eqChR (Abs.rowAt c i) (Abs.rowAt d i))) _ _ = _
    generalize eqChR (Abs.rowAt c i) (Abs.rowAt d i) = b1
    cases b1 <;> rfl

theorem k57 (a n : Int) (c : List (List Cell)) (b k : Int) (d : List (List Cell)) (hc : c.length < 9223372036854775808) : ∃ m, runF E (callOf L80) m 57 [.agg [.int .i64 a, .int .i64 n, .sl false 50 c], .agg [.int .i64 b, .int .i64 k, .sl false 50 d]] [] =
    some ([.one (.bool (eqP a n c b k d))], []) := by
  by_cases hd : c.length = d.length
  · obtain ⟨m, hm⟩ := l57 c d b k hc hd c.length 0 (by omega)
    refine ⟨m + 1, ?_⟩
    rw [e57, show (0 : Int) = ((0 : Nat) : Int) from rfl, hm]
    unfold eqP bne
    rw [List.drop_zero, List.drop_zero]
    generalize (a == b) = b1
    generalize (n == k) = b2
    generalize eqChs c d = b3
    rw [show ((c.length : Int) == (d.length : Int)) = true by simp; omega, decide_eq_true hd]
    cases b1 <;> cases b2 <;> cases b3 <;> rfl
  · refine ⟨1, ?_⟩
    rw [e57]
    unfold eqP bne
    generalize (a == b) = b1
    generalize (n == k) = b2
    rw [show ((c.length : Int) == (d.length : Int)) = false by simp; omega, decide_eq_false hd]
    cases b1 <;> cases b2 <;> rfl

theorem l40 (c d : List (List Cell)) (a n b k : Int) (hc : c.length < 9223372036854775808) (hd : c.length = d.length) : ∀ (e i : Nat), i + e = c.length →
    ∃ m, goF E (callOf L59) F40 0 m P40_0 (M40_0 i a n c b k d) = some ([.one (.bool (eqChs (c.drop i) (d.drop i)))], [])
  | 0, i, hi => by
    refine ⟨1, ?_⟩
    rw [e40_0]
    refine cf (by simp; omega) ?_
    have : c.drop i = [] := List.drop_eq_nil_of_le (by omega)
    rw [this, eqChs]
  | e + 1, i, hi => by
    obtain ⟨m, hm⟩ := l40 c d a n b k hc hd e (i + 1) (by omega)
    refine ⟨m + 1, ?_⟩
    rw [e40_0]
    refine ct (by simp; omega) (ct (inB_nat' (by omega)) (ct (inB_nat' (by omega)) ?_))
    rw [drop_cons c i (by omega), eqChs, Int.toNat_natCast, nat_wrap (n := c.length) (by omega) hc, hm, rowAt_drop, List.drop_drop]
    have hE : (((nr (Abs.rowAt c i) 0) == (nr (Abs.rowAt d i) 0)) && (((nr (Abs.rowAt c i) 1) == (nr (Abs.rowAt d i) 1)) && (((nr (Abs.rowAt c i) 2) == (nr (Abs.rowAt d i) 2)) && (((nr (Abs.rowAt c i) 3) == (nr (Abs.rowAt d i) 3)) && (((nr (Abs.rowAt c i) 4) == (nr (Abs.rowAt d i) 4)) && (((nr (Abs.rowAt c i) 5) == (nr (Abs.rowAt d i) 5)) && (((nr (Abs.rowAt c i) 6) == (nr (Abs.rowAt d i) 6)) && true))))))) = eqChR (Abs.rowAt c i) (Abs.rowAt d i) := by
      simp only [eqChR, eqCh, Bool.and_assoc, Bool.and_true]
    refine Eq.trans (congrArg (fun b => cond (!b) (some ([AV.one (AC.bool false)], ([] : List Block))) _) hE) ?_
    rw [Nat.add_zero]
    generalize eqChR (Abs.rowAt c i) (Abs.rowAt d i) = b1
    cases b1 <;> rfl

theorem k40 (a n : Int) (c : List (List Cell)) (b k : Int) (d : List (List Cell)) (hc : c.length < 9223372036854775808) : ∃ m, runF E (callOf L59) m 40 [.agg [.int .i64 a, .int .i64 n, .sl false 50 c], .agg [.int .i64 b, .int .i64 k, .sl false 50 d]] [] =
    some ([.one (.bool (eqP a n c b k d))], []) := by
  by_cases hd : c.length = d.length
  · obtain ⟨m, hm⟩ := l40 c d a n b k hc hd c.length 0 (by omega)
    refine ⟨m + 1, ?_⟩
    rw [e40, show (0 : Int) = ((0 : Nat) : Int) from rfl, hm]
    unfold eqP bne
    rw [List.drop_zero, List.drop_zero]
    generalize (a == b) = b1
    generalize (n == k) = b2
    generalize eqChs c d = b3
    rw [show ((c.length : Int) == (d.length : Int)) = true by simp; omega, decide_eq_true hd]
    cases b1 <;> cases b2 <;> cases b3 <;> rfl
  · refine ⟨1, ?_⟩
    rw [e40]
    unfold eqP bne
    generalize (a == b) = b1
    generalize (n == k) = b2
    rw [show ((c.length : Int) == (d.length : Int)) = false by simp; omega, decide_eq_false hd]
    cases b1 <;> cases b2 <;> rfl

theorem cmpP_cases (a n b m : Int) : (cmpP a n b m = -1 ∧ (a < b ∨ (a = b ∧ n < m))) ∨ (cmpP a n b m = 0 ∧ a = b ∧ n = m) ∨ (cmpP a n b m = 1 ∧ (b < a ∨ (a = b ∧ m < n))) := by
  unfold cmpP
  (repeat' split) <;> omega

theorem eqChs_refl : ∀ c : List (List Cell), eqChs c c = true
  | [] => rfl
  | r :: c => by
    have : eqChR r r = true := by simp [eqChR, eqCh]
    rw [eqChs]
    show (eqChR r r && eqChs c c) = true
    rw [this, eqChs_refl c]
    rfl

theorem eqP_refl (a n : Int) (c : List (List Cell)) : eqP a n c a n c = true := by
  simp [eqP, eqChs_refl]

theorem fits_of {n : Nat} (h : n ≤ 4294967296) : fits n = true := by
  unfold fits LIM
  exact Nat.ble_eq_true_of_le h

theorem okEnc_of {x : List (List Cell)} {v : Int} (h : okEnc x v = true) : x.length ≤ 4000000 ∧ 0 ≤ v ∧ v < 18446744073709551616 := by
  unfold okEnc at h
  simp only [Bool.and_eq_true, decide_eq_true_eq] at h
  exact h

theorem okEnc_mk {x : List (List Cell)} {v : Int} (h1 : x.length ≤ 4000000) (h2 : 0 ≤ v) (h3 : v < 18446744073709551616) : okEnc x v = true := by
  unfold okEnc
  simp only [Bool.and_eq_true, decide_eq_true_eq]
  exact ⟨h1, h2, h3⟩

theorem l72 (x : List (List Cell)) (hx : x.length ≤ 4000000) : ∀ (k : Nat) (v : Int) (acc : List (List Cell)), 0 ≤ v → v < 128 ^ k → v < 18446744073709551616 → 1 ≤ k → acc.length + k ≤ 1000 →
    ∃ m, goF E (callOf L40) F72 0 m P72_0 (M72_0 x v acc) = some ([.one (.sl true 5 (x ++ (acc ++ uencF k v)))], [])
  | 0, _, _, _, _, _, h, _ => by omega
  | k + 1, v, acc, h0, h1, h2, _, hl => by
    by_cases hs : v < 128
    · refine ⟨1, ?_⟩
      rw [e72_0]
      refine cf (decide_eq_false (by omega)) (ct (fits_of (by simp; omega)) (ct (inB_nat' (by omega)) (ct (by simp) (ct (fits_of (by simp [takeN_eq]; omega)) ?_))))
      rw [takeN_eq, Int.toNat_natCast, List.take_length, wrap8 (by omega) (by omega), uencF, if_pos hs]
    · have hk : 1 ≤ k := by
        cases k with
        | zero => simp at h1; omega
        | succ k => omega
      obtain ⟨m, hm⟩ := l72 x hx k (v / 128) (acc ++ [[.int .u8 (v % 128 + 128)]]) (by omega) (by rw [Int.pow_succ] at h1; omega) (by omega) hk (by simp; omega)
      refine ⟨m + 1, ?_⟩
      rw [e72_0]
      refine ct (decide_eq_true (by omega)) (ct (fits_of (by simp; omega)) ?_)
      have e : orI .u8 (IntKind.wrap .u8 v) 128 = v % 128 + 128 := by
        rw [wrapu8_eq, or8 (by omega) (by omega)]
        omega
      rw [e, shr7, hm, uencF, if_neg hs, List.append_assoc]
      rfl

theorem pow10 {v : Int} (h : v < 18446744073709551616) : v < 128 ^ 10 := by
  have e : (128 : Int) ^ 10 = 1180591620717411303424 := by decide
  rw [e]; omega

theorem k72 (x : List (List Cell)) (v : Int) (h : okEnc x v = true) : ∃ m, runF E (callOf L40) m 72 [.one (.sl false 5 x), .one (.int .u64 v)] [] = some ([.one (.sl true 5 (x ++ uenc v))], []) := by
  obtain ⟨h1, h2, h3⟩ := okEnc_of h
  obtain ⟨m, hm⟩ := l72 x h1 10 v [] h2 (pow10 h3) h3 (by omega) (by simp)
  exact ⟨m + 1, by rw [e72]; exact hm⟩

theorem l89 : ∀ (k : Nat) (v : Int) (acc : List (List Cell)), 0 ≤ v → v < 128 ^ k → v < 18446744073709551616 → 1 ≤ k → acc.length + k ≤ 4001000 →
    ∃ m, goF E (callOf L72) F89 0 m P89_0 (M89_0 v acc) = some ([.one (.sl true 5 (acc ++ uencF k v))], [])
  | 0, _, _, _, _, _, h, _ => by omega
  | k + 1, v, acc, h0, h1, h2, _, hl => by
    by_cases hs : v < 128
    · refine ⟨1, ?_⟩
      rw [e89_0]
      refine cf (decide_eq_false (by omega)) (ct (fits_of (by simp; omega)) ?_)
      rw [wrap8 (by omega) (by omega), uencF, if_pos hs]
    · have hk : 1 ≤ k := by
        cases k with
        | zero => simp at h1; omega
        | succ k => omega
      obtain ⟨m, hm⟩ := l89 k (v / 128) (acc ++ [[.int .u8 (v % 128 + 128)]]) (by omega) (by rw [Int.pow_succ] at h1; omega) (by omega) hk (by simp; omega)
      refine ⟨m + 1, ?_⟩
      rw [e89_0]
      refine ct (decide_eq_true (by omega)) (ct (fits_of (by simp; omega)) ?_)
      have e1 : Int.tmod v 128 = v % 128 := Int.tmod_eq_emod_of_nonneg h0
      have e2 : Int.tdiv v 128 = v / 128 := Int.tdiv_eq_ediv_of_nonneg h0
      rw [e1, e2, wrap8 (n := v % 128) (by omega) (by omega), wrap8 (by omega) (by omega), wrapu (by omega) (by omega), hm, uencF, if_neg hs, List.append_assoc]
      rfl

theorem k89 (x : List (List Cell)) (v : Int) (h : okEnc x v = true) : ∃ m, runF E (callOf L72) m 89 [.one (.sl false 5 x), .one (.int .u64 v)] [] = some ([.one (.sl true 5 (x ++ uenc v))], []) := by
  obtain ⟨h1, h2, h3⟩ := okEnc_of h
  obtain ⟨m, hm⟩ := l89 10 v ([] ++ x) h2 (pow10 h3) h3 (by omega) (by simp; omega)
  refine ⟨m + 1, ?_⟩
  rw [e89]
  exact ct (fits_of (by simp; omega)) hm

theorem okRd_of {x : List (List Cell)} (h : okRd x = true) : okB x = true ∧ x.length ≤ 4000000 := by
  unfold okRd okLen at h
  simpa using h

theorem okRd_mk {x : List (List Cell)} (h1 : okB x = true) (h2 : x.length ≤ 4000000) : okRd x = true := by
  unfold okRd okLen
  simp [h1, h2]

theorem okRd_drop {x : List (List Cell)} (h : okRd x = true) (n : Nat) : okRd (x.drop n) = true :=
  okRd_mk (okB_drop (okRd_of h).1 n) (by have := (okRd_of h).2; simp; omega)

/-- the results of a reading as the code hands them back -/
def rd3 (r : Int × Int × Int) : List AV × List Block := ([.one (.int .u64 r.1), .one (.int .i64 r.2.1), .one (.int .i64 r.2.2)], [])

theorem udecF_step (k : Nat) (i : Nat) (acc : Int) (x : List (List Cell)) (hi : i < x.length) : udecF (k + 1) i acc (x.drop i) =
    if k = 0 ∧ 1 < nr (Abs.rowAt x i) 0 then (0, 0, 9)
    else if nr (Abs.rowAt x i) 0 < 128 then (if nr (Abs.rowAt x i) 0 = 0 ∧ 0 < i then (0, 0, 2) else (acc + nr (Abs.rowAt x i) 0 * 128 ^ i, (i : Int) + 1, 0))
    else udecF k ((i + 1 : Nat) : Int) (acc + (nr (Abs.rowAt x i) 0 - 128) * 128 ^ i) (x.drop (i + 1)) := by
  rw [drop_cons x i hi, udecF]
  simp only [Int.toNat_natCast]
  rw [show ((i : Int) + 1) = ((i + 1 : Nat) : Int) by omega]
  simp only [Int.natCast_pos]

theorem l68 (x : List (List Cell)) (hx : okRd x = true) : ∀ (k i : Nat) (acc : Int), i + k = 9 → 1 ≤ i → i ≤ x.length → 0 ≤ acc → acc < 128 ^ i →
    ∃ m, goF E (callOf L89) F68 0 m P68_0 (M68_0 x acc i) = some (rd3 (udecF (k + 1) i acc (x.drop i))) := by
  intro k
  induction k with
  | zero =>
    intro i acc hi h1 hl h0 hacc
    have h9 : i = 9 := by omega
    subst h9
    by_cases hend : 9 = x.length
    · refine ⟨1, ?_⟩
      rw [e68_0]
      refine ct (by simp; omega) ?_
      have : x.drop 9 = [] := List.drop_eq_nil_of_le (by omega)
      rw [this, udecF]
      rfl
    · refine ⟨1, ?_⟩
      obtain ⟨c0, c1⟩ := okB_at (okRd_of hx).1 (i := 9) (by omega)
      rw [e68_0, udecF_step 0 9 acc x (by omega)]
      refine cf (by simp; omega) (ct (inB_nat' (by omega)) (ct (by simp) ?_))
      simp only [Int.toNat_natCast]
      by_cases hc : 1 < nr (Abs.rowAt x 9) 0
      · rw [if_pos ⟨by trivial, hc⟩]
        exact ct (decide_eq_true hc) rfl
      · rw [if_neg (fun h => hc h.2), if_pos (by omega)]
        refine cf (decide_eq_false hc) ?_
        rw [wrap64 (n := 7 * ((9 : Nat) : Int)) (by omega) (by omega), wrap64 (n := ((9 : Nat) : Int) + 1) (by omega) (by omega)]
        refine cf (by decide) ?_
        refine cf (decide_eq_false (by omega)) ?_
        by_cases hz : nr (Abs.rowAt x 9) 0 = 0
        · rw [if_pos ⟨hz, by omega⟩]
          exact ct (by simpa using hz) (ct (by decide) rfl)
        · rw [if_neg (fun h => hz h.1)]
          refine cf (by simpa using hz) ?_
          rw [andNot8 c0 c1, wrapu (by omega) (by omega), show nr (Abs.rowAt x 9) 0 % 128 = nr (Abs.rowAt x 9) 0 by omega]
          have := (step64 (i := 9) h0 hacc c0 (by omega) (by omega) (fun _ => by omega)).1
          rw [show (7 * ((9 : Nat) : Int)) = ((7 * 9 : Nat) : Int) by omega, this]
          rfl
  | succ k ih =>
    intro i acc hi h1 hl h0 hacc
    by_cases hend : i = x.length
    · refine ⟨1, ?_⟩
      rw [e68_0]
      refine ct (by simp; omega) ?_
      have : x.drop i = [] := List.drop_eq_nil_of_le (by omega)
      rw [this, udecF]
      rfl
    · obtain ⟨c0, c1⟩ := okB_at (okRd_of hx).1 (i := i) (by omega)
      have hs := step64 (c := nr (Abs.rowAt x i) 0 % 128) (i := i) h0 hacc (by omega) (by omega) (by omega) (fun h => by omega)
      have hw : IntKind.u64.wrap (andNotI .u8 (nr (Abs.rowAt x i) 0) 128) = nr (Abs.rowAt x i) 0 % 128 := by
        rw [andNot8 c0 c1, wrapu (by omega) (by omega)]
      rw [udecF_step (k + 1) i acc x (by omega), if_neg (by omega)]
      by_cases hc : nr (Abs.rowAt x i) 0 < 128
      · refine ⟨1, ?_⟩
        rw [e68_0]
        refine cf (by simp; omega) (ct (inB_nat' (by omega)) (cf (by simp; omega) ?_))
        rw [wrap64 (n := 7 * (i : Int)) (by omega) (by omega), wrap64 (n := (i : Int) + 1) (by omega) (by omega), Int.toNat_natCast]
        refine cf (decide_eq_false (by omega)) ?_
        refine cf (decide_eq_false (by omega)) ?_
        rw [if_pos hc]
        by_cases hz : nr (Abs.rowAt x i) 0 = 0
        · rw [if_pos ⟨hz, by omega⟩]
          exact ct (by simpa using hz) (ct (decide_eq_true (by omega)) rfl)
        · rw [if_neg (fun h => hz h.1)]
          refine cf (by simpa using hz) ?_
          rw [hw, show (7 * (i : Int)) = ((7 * i : Nat) : Int) by omega, hs.1, show nr (Abs.rowAt x i) 0 % 128 = nr (Abs.rowAt x i) 0 by omega]
          rfl
      · rw [if_neg hc]
        obtain ⟨m, hm⟩ := ih (i + 1) (acc + (nr (Abs.rowAt x i) 0 % 128) * 128 ^ i) (by omega) (by omega) (by omega) hs.2.1 hs.2.2.1
        refine ⟨m + 1, ?_⟩
        rw [e68_0]
        refine cf (by simp; omega) (ct (inB_nat' (by omega)) (cf (by simp; omega) ?_))
        rw [wrap64 (n := 7 * (i : Int)) (by omega) (by omega), wrap64 (n := (i : Int) + 1) (by omega) (by omega), Int.toNat_natCast]
        refine cf (decide_eq_false (by omega)) ?_
        refine ct (decide_eq_true (by omega)) ?_
        rw [hw, show (7 * (i : Int)) = ((7 * i : Nat) : Int) by omega, hs.1, show (i : Int) + 1 = ((i + 1 : Nat) : Int) by omega, hm, show nr (Abs.rowAt x i) 0 % 128 = nr (Abs.rowAt x i) 0 - 128 by omega]

theorem k68 (x : List (List Cell)) (hx : okRd x = true) : ∃ m, runF E (callOf L89) m 68 [.one (.sl false 5 x)] [] = some (rd3 (udec x)) := by
  unfold udec
  by_cases hend : x.length = 0
  · refine ⟨1, ?_⟩
    rw [e68]
    refine ct (by simp; omega) ?_
    rw [List.length_eq_zero_iff.1 hend, udecF]
    rfl
  · obtain ⟨c0, c1⟩ := okB_at (okRd_of hx).1 (i := 0) (by omega)
    have hs := step64 (acc := 0) (c := nr (Abs.rowAt x 0) 0 % 128) (i := 0) (by omega) (by simp) (by omega) (by omega) (by omega) (fun h => by omega)
    have hw : IntKind.u64.wrap (andNotI .u8 (nr (Abs.rowAt x 0) 0) 128) = nr (Abs.rowAt x 0) 0 % 128 := by
      rw [andNot8 c0 c1, wrapu (by omega) (by omega)]
    have hu := udecF_step 9 0 0 x (by omega)
    rw [List.drop_zero] at hu
    simp only [Int.ofNat_zero] at hu
    rw [hu, if_neg (by omega)]
    have hs1 : orI .u64 0 (shlI .u64 (nr (Abs.rowAt x 0) 0 % 128) 0) = nr (Abs.rowAt x 0) 0 % 128 := by
      have := hs.1
      simpa using this
    by_cases hc : nr (Abs.rowAt x 0) 0 < 128
    · refine ⟨1, ?_⟩
      rw [e68, if_pos hc, if_neg (by omega)]
      refine cf (by simp; omega) (ct (inB_of (by omega) (by omega)) ?_)
      refine cf (decide_eq_false (by omega)) ?_
      rw [hw, hs1, show nr (Abs.rowAt x 0) 0 % 128 = nr (Abs.rowAt x 0) 0 by omega]
      generalize nr (Abs.rowAt x 0) 0 = c
      unfold rd3
      cases (c == 0) <;> simp
    · obtain ⟨m, hm⟩ := l68 x hx 8 1 (nr (Abs.rowAt x 0) 0 % 128) (by omega) (by omega) (by omega) (by omega) (by simp; omega)
      refine ⟨m + 1, ?_⟩
      rw [e68, if_neg hc]
      refine cf (by simp; omega) (ct (inB_of (by omega) (by omega)) ?_)
      refine ct (decide_eq_true (by omega)) ?_
      rw [hw, hs1]
      refine Eq.trans hm ?_
      congr 2
      rw [show nr (Abs.rowAt x 0) 0 % 128 = 0 + (nr (Abs.rowAt x 0) 0 - 128) * 128 ^ 0 by simp; omega]

theorem l70 (x : List (List Cell)) (hx : okRd x = true) : ∀ (k i : Nat) (acc : Int), i + k = 9 → i ≤ x.length → 0 ≤ acc → acc < 128 ^ i →
    ∃ m, goF E (callOf L68) F70 0 m P70_0 (M70_0 x acc i) = some (rd3 (udecF (k + 1) i acc (x.drop i))) := by
  intro k
  induction k with
  | zero =>
    intro i acc hi hl h0 hacc
    have h9 : i = 9 := by omega
    subst h9
    refine ⟨1, ?_⟩
    rw [e70_0]
    refine ct (by simp) ?_
    by_cases hend : 9 = x.length
    · refine ct (by simp; omega) ?_
      have : x.drop 9 = [] := List.drop_eq_nil_of_le (by omega)
      rw [this, udecF]
      rfl
    · obtain ⟨c0, c1⟩ := okB_at (okRd_of hx).1 (i := 9) (by omega)
      rw [udecF_step 0 9 acc x (by omega)]
      refine cf (by simp; omega) (ct (by simp) (ct (inB_nat' (by omega)) ?_))
      simp only [Int.toNat_natCast]
      by_cases hc : 1 < nr (Abs.rowAt x 9) 0
      · rw [if_pos ⟨by trivial, hc⟩]
        exact ct (decide_eq_true hc) rfl
      · rw [if_neg (fun h => hc h.2), if_pos (by omega)]
        refine cf (decide_eq_false hc) ?_
        rw [inB_nat' (by omega : 9 < x.length), wrap64 (n := 7 * ((9 : Nat) : Int)) (by omega) (by omega), wrap64 (n := ((9 : Nat) : Int) + 1) (by omega) (by omega), wrapu (n := 7 * ((9 : Nat) : Int)) (by omega) (by omega)]
        refine ct rfl (cf (by decide) (ct rfl ?_))
        refine ct (decide_eq_true (by omega)) (ct rfl ?_)
        by_cases hz : nr (Abs.rowAt x 9) 0 = 0
        · rw [if_pos ⟨hz, by omega⟩]
          exact ct (by simpa using hz) (ct (by decide) rfl)
        · rw [if_neg (fun h => hz h.1)]
          refine cf (by simpa using hz) ?_
          rw [Int.tmod_eq_emod_of_nonneg c0, wrapu (n := nr (Abs.rowAt x 9) 0 % 128) (by omega) (by omega), show nr (Abs.rowAt x 9) 0 % 128 = nr (Abs.rowAt x 9) 0 by omega]
          have := (step64 (i := 9) h0 hacc c0 (by omega) (by omega) (fun _ => by omega)).1
          rw [show (7 * ((9 : Nat) : Int)) = ((7 * 9 : Nat) : Int) by omega, this]
          rfl
  | succ k ih =>
    intro i acc hi hl h0 hacc
    by_cases hend : i = x.length
    · refine ⟨1, ?_⟩
      rw [e70_0]
      refine ct (decide_eq_true (by omega)) (ct (by simp; omega) ?_)
      have : x.drop i = [] := List.drop_eq_nil_of_le (by omega)
      rw [this, udecF]
      rfl
    · obtain ⟨c0, c1⟩ := okB_at (okRd_of hx).1 (i := i) (by omega)
      have hs := step64 (c := nr (Abs.rowAt x i) 0 % 128) (i := i) h0 hacc (by omega) (by omega) (by omega) (fun h => by omega)
      have hw : IntKind.u64.wrap (Int.tmod (nr (Abs.rowAt x i) 0) 128) = nr (Abs.rowAt x i) 0 % 128 := by
        rw [Int.tmod_eq_emod_of_nonneg c0, wrapu (by omega) (by omega)]
      rw [udecF_step (k + 1) i acc x (by omega), if_neg (by omega)]
      by_cases hc : nr (Abs.rowAt x i) 0 < 128
      · refine ⟨1, ?_⟩
        rw [e70_0]
        rw [inB_nat' (by omega : i < x.length), wrap64 (n := 7 * (i : Int)) (by omega) (by omega), wrap64 (n := (i : Int) + 1) (by omega) (by omega), wrapu (n := 7 * (i : Int)) (by omega) (by omega), Int.toNat_natCast]
        refine ct (decide_eq_true (by omega)) (cf (by simp; omega) (cf (by simp; omega) (ct rfl (cf (decide_eq_false (by omega)) (ct rfl ?_)))))
        refine ct (decide_eq_true hc) (ct rfl ?_)
        rw [if_pos hc, hw, show (7 * (i : Int)) = ((7 * i : Nat) : Int) by omega, hs.1, show nr (Abs.rowAt x i) 0 % 128 = nr (Abs.rowAt x i) 0 by omega]
        by_cases hz : nr (Abs.rowAt x i) 0 = 0
        · refine ct (by simpa using hz) ?_
          by_cases hp : 0 < i
          · rw [if_pos ⟨hz, hp⟩]
            exact ct (decide_eq_true (by omega)) rfl
          · rw [if_neg (fun h => hp h.2)]
            exact cf (decide_eq_false (by omega)) rfl
        · rw [if_neg (fun h => hz h.1)]
          exact cf (by simpa using hz) rfl
      · rw [if_neg hc]
        obtain ⟨m, hm⟩ := ih (i + 1) (acc + (nr (Abs.rowAt x i) 0 % 128) * 128 ^ i) (by omega) (by omega) hs.2.1 hs.2.2.1
        refine ⟨m + 1, ?_⟩
        rw [e70_0]
        rw [inB_nat' (by omega : i < x.length), wrap64 (n := 7 * (i : Int)) (by omega) (by omega), wrap64 (n := (i : Int) + 1) (by omega) (by omega), wrapu (n := 7 * (i : Int)) (by omega) (by omega), Int.toNat_natCast]
        refine ct (decide_eq_true (by omega)) (cf (by simp; omega) (cf (by simp; omega) (ct rfl (cf (decide_eq_false (by omega)) (ct rfl ?_)))))
        refine cf (decide_eq_false hc) ?_
        rw [hw, show (7 * (i : Int)) = ((7 * i : Nat) : Int) by omega, hs.1, show (i : Int) + 1 = ((i + 1 : Nat) : Int) by omega, hm, show nr (Abs.rowAt x i) 0 % 128 = nr (Abs.rowAt x i) 0 - 128 by omega]

theorem k70 (x : List (List Cell)) (hx : okRd x = true) : ∃ m, runF E (callOf L68) m 70 [.one (.sl false 5 x)] [] = some (rd3 (udec x)) := by
  obtain ⟨m, hm⟩ := l70 x hx 9 0 0 (by omega) (by omega) (by omega) (by simp)
  exact ⟨m + 1, by rw [e70]; exact hm⟩

theorem udecF_bound : ∀ (k : Nat) (i acc : Int) (l : List (List Cell)), 0 ≤ acc → 0 ≤ i → (∀ r ∈ l, 0 ≤ nr r 0) → (udecF k i acc l).2.2 = 0 → i < (udecF k i acc l).2.1 ∧ (udecF k i acc l).2.1 ≤ i + l.length ∧ 0 ≤ (udecF k i acc l).1
  | 0, _, _, _, _, _, _, h => by simp [udecF] at h
  | k + 1, _, _, [], _, _, _, h => by simp [udecF] at h
  | k + 1, i, acc, r :: rs, ha, hi, hl, h => by
    have h0 := hl r (List.mem_cons_self)
    have hp : (0 : Int) < 128 ^ i.toNat := Int.pow_pos (by decide)
    unfold udecF at h ⊢
    split
    · rw [if_pos (by assumption)] at h; simp at h
    · rw [if_neg (by assumption)] at h
      split
      · rw [if_pos (by assumption)] at h
        split
        · rw [if_pos (by assumption)] at h; simp at h
        · have := Int.mul_nonneg h0 (Int.le_of_lt hp)
          simp only [List.length_cons]
          omega
      · rw [if_neg (by assumption)] at h
        have := Int.mul_nonneg (show 0 ≤ nr r 0 - 128 by omega) (Int.le_of_lt hp)
        have := udecF_bound k (i + 1) (acc + (nr r 0 - 128) * 128 ^ i.toNat) rs (by omega) (by omega) (fun r hr => hl r (List.mem_cons_of_mem _ hr)) h
        simp only [List.length_cons]
        omega

theorem okB_nonneg {x : List (List Cell)} (h : okB x = true) : ∀ r ∈ x, 0 ≤ nr r 0 := fun r hr => (isByte_nr (List.all_eq_true.1 h r hr)).1

theorem udec_bound {x : List (List Cell)} (hx : okB x = true) (h : (udec x).2.2 = 0) : 0 < (udec x).2.1 ∧ (udec x).2.1 ≤ x.length ∧ 0 ≤ (udec x).1 := by
  have := udecF_bound 10 0 0 x (by omega) (by omega) (okB_nonneg hx) h
  unfold udec
  omega

theorem rnum2_bound {x : List (List Cell)} (hx : okB x = true) (h : (rnum2 x).2.2 = 0) : 0 < (rnum2 x).2.1 ∧ (rnum2 x).2.1 ≤ x.length ∧ 0 ≤ (rnum2 x).1 ∧ (rnum2 x).1 ≤ 2147483647 := by
  unfold rnum2 at h ⊢
  split
  · rw [if_pos (by assumption)] at h
    simp at h
    omega
  · rename_i h1
    rw [if_neg h1] at h
    split
    · rw [if_pos (by assumption)] at h; simp at h
    · have := udec_bound hx (by omega)
      omega

theorem k96 (x : List (List Cell)) (hx : okRd x = true) : runF E (callOf L69) 1 96 [.one (.sl false 5 x)] [] = some ([.one (.int .i64 (rnum2 x).1), .one (.int .i64 (rnum2 x).2.1), .one (.int .i64 (rnum2 x).2.2)], []) := by
  rw [e96]
  refine ct hx ?_
  unfold rnum2
  by_cases h : (udec x).2.2 = 0
  · refine cf (by simpa using h) ?_
    rw [if_neg (by simpa using h)]
    by_cases h1 : 2147483647 < (udec x).1
    · rw [if_pos h1]
      exact ct (decide_eq_true h1) rfl
    · rw [if_neg h1]
      refine cf (decide_eq_false h1) ?_
      have := udec_bound (okRd_of hx).1 h
      rw [wrap64 (by omega) (by omega), h]
  · rw [if_pos h]
    exact ct (by simpa using h) rfl

theorem okAt_of {x : List (List Cell)} {o : Int} (h : okAt x o = true) : okRd x = true ∧ 0 ≤ o ∧ o ≤ x.length := by
  unfold okAt at h
  unfold okRd
  simp only [Bool.and_eq_true, decide_eq_true_eq] at h ⊢
  exact ⟨⟨h.1, h.2.1⟩, h.2.2⟩

theorem okAt_mk {x : List (List Cell)} {o : Int} (h : okRd x = true) (h0 : 0 ≤ o) (h1 : o ≤ x.length) : okAt x o = true := by
  unfold okAt
  unfold okRd at h
  simp only [Bool.and_eq_true, decide_eq_true_eq] at h ⊢
  exact ⟨h.1, h.2, h0, h1⟩

/-- the reader's state behind a number -/
theorem rnum_at {b : List (List Cell)} {o e : Int} (h : okAt b o = true) : okAt b (rnum b o e).2.1 = true := by
  obtain ⟨h1, h2, h3⟩ := okAt_of h
  unfold rnum
  split
  · exact h
  · split
    · exact h
    · rename_i h4
      have := rnum2_bound (okB_drop (okRd_of h1).1 o.toNat) (by simpa using h4)
      rw [List.length_drop] at this
      exact okAt_mk h1 (by simp only; omega) (by simp only; omega)

theorem k87 (b : List (List Cell)) (o e : Int) (h : okAt b o = true) : runF E (callOf L70) 1 87 [.one (.ptr 0 0)] [.var [.sl false 5 b, .int .i64 o, .int .i64 e]] =
    some ([.one (.int .i64 (rnum b o e).1)], [.var [.sl false 5 b, .int .i64 (rnum b o e).2.1, .int .i64 (rnum b o e).2.2]]) := by
  obtain ⟨h1, h2, h3⟩ := okAt_of h
  have h4 := okRd_drop h1 o.toNat
  rw [e87]
  unfold rnum
  by_cases he : e = 0
  · subst he
    rw [if_neg (by simp)]
    refine cf (by simp) (ct (inB_of h2 (by omega)) ?_)
    rw [dropN_eq]
    refine ct h4 ?_
    have hl := (okRd_of h1).2
    by_cases hd : (udec (b.drop o.toNat)).2.2 = 0
    · refine cf (by simpa using hd) ?_
      have hb := udec_bound (okRd_of h4).1 hd
      rw [List.length_drop] at hb
      by_cases hbig : 2147483647 < (udec (b.drop o.toNat)).1
      · refine ct (decide_eq_true hbig) ?_
        have e : rnum2 (b.drop o.toNat) = (0, 0, 9) := by
          unfold rnum2
          rw [if_neg (by simpa using hd), if_pos hbig]
        rw [e]
        rfl
      · refine cf (decide_eq_false hbig) ?_
        have e : rnum2 (b.drop o.toNat) = udec (b.drop o.toNat) := by
          unfold rnum2
          rw [if_neg (by simpa using hd), if_neg hbig]
        rw [e, if_neg (by simpa using hd), wrap64 (by omega) (by omega), wrap64 (by omega) (by omega)]
    · refine ct (by simpa using hd) ?_
      have e : rnum2 (b.drop o.toNat) = (0, 0, (udec (b.drop o.toNat)).2.2) := by
        unfold rnum2
        rw [if_pos hd]
      rw [e, if_pos (by simpa using hd)]
  · rw [if_pos he]
    exact ct (by simpa using he) rfl

theorem l88 (x : List (List Cell)) (hx : okRd x = true) (c : Int) (hc : c ≤ 1000) : ∀ (d i : Nat) (o : Int) (acc : List (List Cell)), i + d = c.toNat → 0 ≤ o → o ≤ x.length → acc.length = i →
    ∃ m, goF E (callOf L96) F88 0 m P88_0 (M88_0 x c acc o i) = some ([.one (.sl true 3 (rreadF x d o acc).1), .one (.int .i64 (rreadF x d o acc).2.1), .one (.int .i64 (rreadF x d o acc).2.2)], []) := by
  intro d
  induction d with
  | zero =>
    intro i o acc hi h0 h1 ha
    refine ⟨1, ?_⟩
    rw [e88_0]
    exact cf (decide_eq_false (by omega)) rfl
  | succ d ih =>
    intro i o acc hi h0 h1 ha
    have h4 := okRd_drop hx o.toNat
    have hl := (okRd_of hx).2
    by_cases he : (rnum2 (x.drop o.toNat)).2.2 = 0
    · have hb := rnum2_bound (okRd_of h4).1 he
      rw [List.length_drop] at hb
      obtain ⟨m, hm⟩ := ih (i + 1) (o + (rnum2 (x.drop o.toNat)).2.1) (acc ++ [[.int .i64 (rnum2 (x.drop o.toNat)).1]]) (by omega) (by omega) (by omega) (by simp; omega)
      refine ⟨m + 1, ?_⟩
      rw [e88_0, dropN_eq]
      refine ct (decide_eq_true (by omega)) (ct (inB_of h0 (by omega)) (ct h4 (cf (by simpa using he) (ct (fits_of (by simp; omega)) ?_))))
      rw [wrap64 (by omega) (by omega), wrap64 (by omega) (by omega), show (i : Int) + 1 = ((i + 1 : Nat) : Int) by omega, hm, rreadF, if_neg (by simpa using he)]
    · refine ⟨1, ?_⟩
      rw [e88_0, dropN_eq]
      refine ct (decide_eq_true (by omega)) (ct (inB_of h0 (by omega)) (ct h4 (ct (by simpa using he) ?_)))
      rw [rreadF, if_pos he]

theorem k88 (x : List (List Cell)) (c : Int) (h : (okRd x && decide (c ≤ 1000)) = true) : ∃ m, runF E (callOf L96) m 88 [.one (.sl false 5 x), .one (.int .i64 c)] [] = some ([.one (.sl true 3 (rread x c).1), .one (.int .i64 (rread x c).2.1), .one (.int .i64 (rread x c).2.2)], []) := by
  simp only [Bool.and_eq_true, decide_eq_true_eq] at h
  obtain ⟨m, hm⟩ := l88 x h.1 c h.2 c.toNat 0 0 [] (by omega) (by omega) (by omega) rfl
  exact ⟨m + 1, by rw [e88]; exact hm⟩

theorem encL_app : ∀ (x y : List (List Cell)), encL (x ++ y) = encL x ++ encL y
  | [], y => rfl
  | r :: x, y => by rw [List.cons_append, encL, encL, encL_app x y, List.append_assoc]

theorem encL_len : ∀ (x : List (List Cell)), (encL x).length ≤ 10 * x.length
  | [] => by simp [encL]
  | r :: x => by
    have := encL_len x
    have := uenc_len (IntKind.wrap .u64 (nr r 0))
    simp only [encL, List.length_append, List.length_cons]
    omega

theorem encL_okB : ∀ (x : List (List Cell)), okB (encL x) = true
  | [] => rfl
  | r :: x => by
    rw [encL]
    exact okB_app (uencF_okB 10 _ (wrapu_range _).1) (encL_okB x)

theorem okNums_of {x l : List (List Cell)} (h : okNums x l = true) : x.length ≤ 2000000 ∧ l.length ≤ 10000 := by
  unfold okNums at h
  simpa using h

theorem okNums_mk {x l : List (List Cell)} (h1 : x.length ≤ 2000000) (h2 : l.length ≤ 10000) : okNums x l = true := by
  unfold okNums
  simp [h1, h2]

theorem l74 (l : List (List Cell)) (hl : l.length ≤ 10000) : ∀ (d i : Nat) (x : List (List Cell)), i + d = l.length → x.length ≤ 2000000 + 10 * i →
    ∃ m, goF E (callOf L88) F74 0 m P74_0 (M74_0 x l i) = some ([.one (.sl false 5 (x ++ encL (l.drop i)))], [])
  | 0, i, x, hi, hx => by
    refine ⟨1, ?_⟩
    rw [e74_0]
    have : l.drop i = [] := List.drop_eq_nil_of_le (by omega)
    refine cf (decide_eq_false (by omega)) ?_
    rw [this, encL, List.append_nil]
  | d + 1, i, x, hi, hx => by
    have hu := uenc_len (IntKind.wrap .u64 (nr (Abs.rowAt l i) 0))
    obtain ⟨m, hm⟩ := l74 l hl d (i + 1) (x ++ uenc (IntKind.wrap .u64 (nr (Abs.rowAt l i) 0))) (by omega) (by simp; omega)
    refine ⟨m + 1, ?_⟩
    rw [e74_0]
    have hr := wrapu_range (nr (Abs.rowAt l i) 0)
    rw [Int.toNat_natCast]
    refine ct (decide_eq_true (by omega)) (ct (inB_nat' (by omega)) (ct (okEnc_mk (by omega) hr.1 hr.2) ?_))
    rw [nat_wrap (n := l.length) (by omega) (by omega), hm, drop_cons l i (by omega), encL, List.append_assoc]

theorem k74 (x l : List (List Cell)) (h : okNums x l = true) : ∃ m, runF E (callOf L88) m 74 [.one (.sl false 5 x), .one (.sl false 3 l)] [] = some ([.one (.sl false 5 (x ++ encL l))], []) := by
  obtain ⟨h1, h2⟩ := okNums_of h
  obtain ⟨m, hm⟩ := l74 l h2 l.length 0 x (by omega) (by omega)
  exact ⟨m + 1, by rw [e74]; exact hm⟩

theorem okApp_of {x c : List (List Cell)} (h : okApp x c = true) : x.length ≤ 1000000 ∧ c.length ≤ 1000 := by
  unfold okApp at h
  simpa using h

theorem l75 (a n : Int) (c : List (List Cell)) (hc : c.length ≤ 1000) : ∀ (d i : Nat) (x : List (List Cell)), i + d = c.length → x.length ≤ 1000030 + 70 * i →
    ∃ m, goF E (callOf L74) F75 0 m P75_0 (M75_0 x i a n c) = some ([.one (.sl false 5 (x ++ encL (chsNums (c.drop i))))], [])
  | 0, i, x, hi, hx => by
    refine ⟨1, ?_⟩
    rw [e75_0]
    have : c.drop i = [] := List.drop_eq_nil_of_le (by omega)
    refine cf (decide_eq_false (by omega)) ?_
    rw [this, chsNums, encL, List.append_nil]
  | d + 1, i, x, hi, hx => by
    have hu := encL_len (chNums (Abs.rowAt c i))
    have h7 : (chNums (Abs.rowAt c i)).length = 7 := rfl
    obtain ⟨m, hm⟩ := l75 a n c hc d (i + 1) (x ++ encL (chNums (Abs.rowAt c i))) (by omega) (by simp; omega)
    refine ⟨m + 1, ?_⟩
    rw [e75_0, Int.toNat_natCast]
    refine ct (decide_eq_true (by omega)) (ct (inB_nat' (by omega)) (ct (okNums_mk (by omega) (by simp)) ?_))
    rw [nat_wrap (n := c.length) (by omega) (by omega)]
    refine Eq.trans hm ?_
    rw [drop_cons c i (by omega), chsNums, encL_app, List.append_assoc]

theorem k75 (x : List (List Cell)) (a n : Int) (c : List (List Cell)) (h : okApp x c = true) : ∃ m, runF E (callOf L74) m 75 [.one (.sl false 5 x), .agg [.int .i64 a, .int .i64 n, .sl false 50 c]] [] = some ([.one (.sl false 5 (x ++ encP a n c))], []) := by
  obtain ⟨h1, h2⟩ := okApp_of h
  have hu := encL_len (headNums a n c.length)
  have h7 : (headNums a n c.length).length = 3 := rfl
  obtain ⟨m, hm⟩ := l75 a n c h2 c.length 0 (x ++ encL (headNums a n c.length)) (by omega) (by simp; omega)
  refine ⟨m + 1, ?_⟩
  rw [e75]
  refine ct (okNums_mk (by omega) (by simp)) (Eq.trans hm ?_)
  rw [List.drop_zero, List.append_assoc, ← encL_app]
  rfl

theorem l75c (a n : Int) (c : List (List Cell)) (hc : c.length ≤ 1000) : ∀ (d i : Nat) (x : List (List Cell)), i + d = c.length → x.length ≤ 1000030 + 70 * i →
    ∃ m, goF E (callOf L74) F75 0 m P75_0_c1 (M75_0_c1 x i a n c) = some ([.one (.sl false 5 (x ++ encL (chsNums (c.drop i))))], [])
  | 0, i, x, hi, hx => by
    refine ⟨1, ?_⟩
    rw [e75_0_c1]
    have : c.drop i = [] := List.drop_eq_nil_of_le (by omega)
    refine cf (decide_eq_false (by omega)) ?_
    rw [this, chsNums, encL, List.append_nil]
  | d + 1, i, x, hi, hx => by
    have hu := encL_len (chNums (Abs.rowAt c i))
    have h7 : (chNums (Abs.rowAt c i)).length = 7 := rfl
    obtain ⟨m, hm⟩ := l75c a n c hc d (i + 1) (x ++ encL (chNums (Abs.rowAt c i))) (by omega) (by simp; omega)
    refine ⟨m + 1, ?_⟩
    rw [e75_0_c1, Int.toNat_natCast]
    refine ct (decide_eq_true (by omega)) (ct (inB_nat' (by omega)) (ct (okNums_mk (by omega) (by simp)) ?_))
    rw [nat_wrap (n := c.length) (by omega) (by omega)]
    refine Eq.trans hm ?_
    rw [drop_cons c i (by omega), chsNums, encL_app, List.append_assoc]

theorem k75c (a n : Int) (c : List (List Cell)) (h : okApp [] c = true) : ∃ m, runF E (callOf L74) m 75 [.one .nils, .agg [.int .i64 a, .int .i64 n, .sl false 50 c]] [] = some ([.one (.sl false 5 (encP a n c))], []) := by
  obtain ⟨h1, h2⟩ := okApp_of h
  have hu := encL_len (headNums a n c.length)
  have h7 : (headNums a n c.length).length = 3 := rfl
  obtain ⟨m, hm⟩ := l75c a n c h2 c.length 0 ([] ++ encL (headNums a n c.length)) (by omega) (by simp; omega)
  refine ⟨m + 1, ?_⟩
  rw [e75_c1]
  refine ct (okNums_mk (by simp) (by simp)) (Eq.trans hm ?_)
  rw [List.drop_zero, List.nil_append, ← encL_app]
  rfl

theorem chsNums_len : ∀ (c : List (List Cell)), (chsNums c).length = 7 * c.length
  | [] => rfl
  | r :: c => by
    have h7 : (chNums r).length = 7 := rfl
    rw [chsNums, List.length_append, chsNums_len c, List.length_cons]
    omega

theorem l73b (x l : List (List Cell)) (hx : x.length ≤ 1000000) (hl : l.length ≤ 10000) : ∀ (d i : Nat) (y : List (List Cell)), i + d = l.length → y.length ≤ 10 * i →
    ∃ m, goF E (callOf L87) F73 0 m P73_1 (M73_1 x y l l.length i) = some ([.one (.sl true 5 (x ++ (y ++ encL (l.drop i))))], [])
  | 0, i, y, hi, hy => by
    refine ⟨1, ?_⟩
    rw [e73_1]
    have : l.drop i = [] := List.drop_eq_nil_of_le (by omega)
    simp only [takeN_eq, Int.toNat_natCast, List.take_length, this, encL, List.append_nil]
    exact cf (decide_eq_false (by omega)) (ct (inB_nat' (by omega)) (ct (by simp) (ct (fits_of (by omega)) rfl)))
  | d + 1, i, y, hi, hy => by
    have hu := uenc_len (IntKind.wrap .u64 (nr (Abs.rowAt l i) 0))
    obtain ⟨m, hm⟩ := l73b x l hx hl d (i + 1) (y ++ uenc (IntKind.wrap .u64 (nr (Abs.rowAt l i) 0))) (by omega) (by simp; omega)
    refine ⟨m + 1, ?_⟩
    have hr := wrapu_range (nr (Abs.rowAt l i) 0)
    rw [e73_1, Int.toNat_natCast (n := i)]
    refine ct (decide_eq_true (by omega)) (ct (inB_nat' (by omega)) (ct (okEnc_mk (by omega) hr.1 hr.2) ?_))
    rw [nat_wrap (n := l.length) (by omega) (by omega), hm, drop_cons l i (by omega), encL]
    simp only [List.append_assoc]

theorem l73a (x : List (List Cell)) (hx : x.length ≤ 1000000) (c : List (List Cell)) (hc : c.length ≤ 1000) : ∀ (d i : Nat) (l : List (List Cell)), i + d = c.length → l.length = 3 + 7 * i →
    ∃ m, goF E (callOf L87) F73 0 m P73_0 (M73_0 x l c c.length i) = some ([.one (.sl true 5 (x ++ encL (l ++ chsNums (c.drop i))))], [])
  | 0, i, l, hi, hl => by
    obtain ⟨m, hm⟩ := l73b x l hx (by omega) l.length 0 [] (by omega) (by simp)
    refine ⟨m + 1, ?_⟩
    rw [e73_0]
    have : c.drop i = [] := List.drop_eq_nil_of_le (by omega)
    rw [this, chsNums, List.append_nil]
    exact cf (decide_eq_false (by omega)) hm
  | d + 1, i, l, hi, hl => by
    have h7 : (chNums (Abs.rowAt c i)).length = 7 := rfl
    obtain ⟨m, hm⟩ := l73a x hx c hc d (i + 1) (l ++ chNums (Abs.rowAt c i)) (by omega) (by simp; omega)
    refine ⟨m + 1, ?_⟩
    rw [e73_0, Int.toNat_natCast]
    refine ct (decide_eq_true (by omega)) (ct (inB_nat' (by omega)) (ct (fits_of (by simp; omega)) ?_))
    rw [nat_wrap (n := c.length) (by omega) (by omega)]
    refine Eq.trans hm ?_
    rw [drop_cons c i (by omega), chsNums, List.append_assoc]

theorem k73 (x : List (List Cell)) (a n : Int) (c : List (List Cell)) (h : okApp x c = true) : ∃ m, runF E (callOf L87) m 73 [.one (.sl false 5 x), .agg [.int .i64 a, .int .i64 n, .sl false 50 c]] [] = some ([.one (.sl true 5 (x ++ encP a n c))], []) := by
  obtain ⟨h1, h2⟩ := okApp_of h
  obtain ⟨m, hm⟩ := l73a x h1 c h2 c.length 0 (headNums a n c.length) (by omega) rfl
  exact ⟨m + 1, by rw [e73]; exact hm⟩

theorem l73bc (l : List (List Cell)) (hl : l.length ≤ 10000) : ∀ (d i : Nat) (y : List (List Cell)), i + d = l.length → y.length ≤ 10 * i →
    ∃ m, goF E (callOf L87) F73 0 m P73_1_c1 (M73_1_c1 [] y l l.length i) = some ([.one (.sl true 5 (y ++ encL (l.drop i)))], [])
  | 0, i, y, hi, hy => by
    refine ⟨1, ?_⟩
    rw [e73_1_c1]
    have : l.drop i = [] := List.drop_eq_nil_of_le (by omega)
    simp only [takeN_eq, Int.toNat_natCast, List.take_length, this, encL, List.append_nil]
    exact cf (decide_eq_false (by omega)) (ct (inB_nat' (by simp)) (ct (by simp) (ct (fits_of (by simp; omega)) rfl)))
  | d + 1, i, y, hi, hy => by
    have hu := uenc_len (IntKind.wrap .u64 (nr (Abs.rowAt l i) 0))
    obtain ⟨m, hm⟩ := l73bc l hl d (i + 1) (y ++ uenc (IntKind.wrap .u64 (nr (Abs.rowAt l i) 0))) (by omega) (by simp; omega)
    refine ⟨m + 1, ?_⟩
    have hr := wrapu_range (nr (Abs.rowAt l i) 0)
    rw [e73_1_c1, Int.toNat_natCast (n := i)]
    refine ct (decide_eq_true (by omega)) (ct (inB_nat' (by omega)) (ct (okEnc_mk (by omega) hr.1 hr.2) ?_))
    rw [nat_wrap (n := l.length) (by omega) (by omega), hm, drop_cons l i (by omega), encL]
    simp only [List.append_assoc]

theorem l73ac (c : List (List Cell)) (hc : c.length ≤ 1000) : ∀ (d i : Nat) (l : List (List Cell)), i + d = c.length → l.length = 3 + 7 * i →
    ∃ m, goF E (callOf L87) F73 0 m P73_0_c1 (M73_0_c1 [] l c c.length i) = some ([.one (.sl true 5 (encL (l ++ chsNums (c.drop i))))], [])
  | 0, i, l, hi, hl => by
    obtain ⟨m, hm⟩ := l73bc l (by omega) l.length 0 [] (by omega) (by simp)
    refine ⟨m + 1, ?_⟩
    rw [e73_0_c1]
    have : c.drop i = [] := List.drop_eq_nil_of_le (by omega)
    rw [this, chsNums, List.append_nil]
    exact cf (decide_eq_false (by omega)) hm
  | d + 1, i, l, hi, hl => by
    have h7 : (chNums (Abs.rowAt c i)).length = 7 := rfl
    obtain ⟨m, hm⟩ := l73ac c hc d (i + 1) (l ++ chNums (Abs.rowAt c i)) (by omega) (by simp; omega)
    refine ⟨m + 1, ?_⟩
    rw [e73_0_c1, Int.toNat_natCast]
    refine ct (decide_eq_true (by omega)) (ct (inB_nat' (by omega)) (ct (fits_of (by simp; omega)) ?_))
    rw [nat_wrap (n := c.length) (by omega) (by omega)]
    refine Eq.trans hm ?_
    rw [drop_cons c i (by omega), chsNums, List.append_assoc]

theorem k73c (a n : Int) (c : List (List Cell)) (h : okApp [] c = true) : ∃ m, runF E (callOf L87) m 73 [.one .nils, .agg [.int .i64 a, .int .i64 n, .sl false 50 c]] [] = some ([.one (.sl true 5 (encP a n c))], []) := by
  obtain ⟨h1, h2⟩ := okApp_of h
  obtain ⟨m, hm⟩ := l73ac c h2 c.length 0 (headNums a n c.length) (by omega) rfl
  exact ⟨m + 1, by rw [e73_c1]; exact hm⟩

def chain (x : List (List Cell)) : Nat → Int → Int → List Int × Int × Int
  | 0, o, e => ([], o, e)
  | k + 1, o, e => ((rnum x o e).1 :: (chain x k (rnum x o e).2.1 (rnum x o e).2.2).1, (chain x k (rnum x o e).2.1 (rnum x o e).2.2).2)

theorem chain_err (x : List (List Cell)) (o e : Int) (he : e ≠ 0) : ∀ k, (chain x k o e).2 = (o, e)
  | 0 => rfl
  | k + 1 => by
    have : rnum x o e = (0, o, e) := by unfold rnum; rw [if_pos he]
    simp only [chain, this]
    exact chain_err x o e he k

theorem chain_rd (x : List (List Cell)) (hx : okRd x = true) (o : Int) (ho : 0 ≤ o) : ∀ (k : Nat) (a : Int) (acc : List (List Cell)), 0 ≤ a → o + a ≤ x.length →
    (rreadF (x.drop o.toNat) k a acc).2.2 = (chain x k (o + a) 0).2.2 ∧
    ((rreadF (x.drop o.toNat) k a acc).2.2 = 0 → (chain x k (o + a) 0).2.1 = o + (rreadF (x.drop o.toNat) k a acc).2.1 ∧ (rreadF (x.drop o.toNat) k a acc).1 = acc ++ (chain x k (o + a) 0).1.map fun n => [Cell.int .i64 n])
  | 0, a, acc, _, _ => by simp [rreadF, chain]
  | k + 1, a, acc, ha, hl => by
    have hd : (x.drop o.toNat).drop a.toNat = x.drop (o + a).toNat := by
      rw [List.drop_drop]
      congr 1
      omega
    simp only [rreadF, chain, hd]
    by_cases he : (rnum2 (x.drop (o + a).toNat)).2.2 = 0
    · have hr : rnum x (o + a) 0 = ((rnum2 (x.drop (o + a).toNat)).1, o + a + (rnum2 (x.drop (o + a).toNat)).2.1, 0) := by
        unfold rnum
        rw [if_neg (by simp), if_neg (by simpa using he)]
      have hb := rnum2_bound (okRd_of (okRd_drop hx (o + a).toNat)).1 he
      rw [List.length_drop] at hb
      rw [if_neg (by simpa using he), hr]
      have := chain_rd x hx o ho k (a + (rnum2 (x.drop (o + a).toNat)).2.1) (acc ++ [[.int .i64 (rnum2 (x.drop (o + a).toNat)).1]]) (by omega) (by omega)
      rw [← Int.add_assoc] at this
      refine ⟨this.1, fun h => ⟨(this.2 h).1, ?_⟩⟩
      rw [(this.2 h).2]
      simp
    · have hr : rnum x (o + a) 0 = (0, o + a, (rnum2 (x.drop (o + a).toNat)).2.2) := by
        unfold rnum
        rw [if_neg (by simp), if_pos he]
      rw [if_pos he, hr]
      simp only
      rw [chain_err x (o + a) _ he k]
      exact ⟨rfl, fun h => absurd h he⟩

theorem chain_read {x : List (List Cell)} (hx : okRd x = true) {o : Int} (ho : 0 ≤ o) (hl : o ≤ x.length) (c : Int) :
    (rread (x.drop o.toNat) c).2.2 = (chain x c.toNat o 0).2.2 ∧
    ((rread (x.drop o.toNat) c).2.2 = 0 → (chain x c.toNat o 0).2.1 = o + (rread (x.drop o.toNat) c).2.1 ∧ (rread (x.drop o.toNat) c).1 = (chain x c.toNat o 0).1.map fun n => [Cell.int .i64 n]) := by
  have := chain_rd x hx o ho c.toNat 0 [] (by omega) (by omega)
  rw [Int.add_zero] at this
  exact this

theorem rreadF_bound (x : List (List Cell)) (hx : okRd x = true) : ∀ (k : Nat) (a : Int) (acc : List (List Cell)), 0 ≤ a → a ≤ x.length → (rreadF x k a acc).2.2 = 0 →
    a ≤ (rreadF x k a acc).2.1 ∧ (rreadF x k a acc).2.1 ≤ x.length ∧ (rreadF x k a acc).1.length = acc.length + k ∧ (1 ≤ k → a < (rreadF x k a acc).2.1)
  | 0, a, acc, ha, hl, _ => ⟨Int.le_refl _, hl, rfl, fun h => by omega⟩
  | k + 1, a, acc, ha, hl, h => by
    simp only [rreadF] at h ⊢
    by_cases he : (rnum2 (x.drop a.toNat)).2.2 = 0
    · have hb := rnum2_bound (okRd_of (okRd_drop hx a.toNat)).1 he
      rw [List.length_drop] at hb
      rw [if_neg (by simpa using he)] at h ⊢
      have := rreadF_bound x hx k _ (acc ++ [[.int .i64 (rnum2 (x.drop a.toNat)).1]]) (by omega) (by omega) h
      simp only [List.length_append, List.length_cons, List.length_nil] at this
      exact ⟨by omega, this.2.1, by omega, fun _ => by omega⟩
    · rw [if_pos he] at h
      exact absurd h he

theorem rread_bound {x : List (List Cell)} (hx : okRd x = true) {c : Int} (h : (rread x c).2.2 = 0) : 0 ≤ (rread x c).2.1 ∧ (rread x c).2.1 ≤ x.length ∧ (rread x c).1.length = c.toNat ∧ (1 ≤ c.toNat → 0 < (rread x c).2.1) := by
  have := rreadF_bound x hx c.toNat 0 [] (by omega) (by omega) h
  rw [List.length_nil, Nat.zero_add] at this
  exact this

theorem decCs_bound (x : List (List Cell)) (hx : okRd x = true) : ∀ (k : Nat) (a : Int) (acc : List (List Cell)), 0 ≤ a → a ≤ x.length → (decCs x k a acc).2.2 = 0 →
    a ≤ (decCs x k a acc).2.1 ∧ (decCs x k a acc).2.1 ≤ x.length ∧ (decCs x k a acc).1.length = acc.length + k
  | 0, a, acc, ha, hl, _ => ⟨Int.le_refl _, hl, rfl⟩
  | k + 1, a, acc, ha, hl, h => by
    simp only [decCs] at h ⊢
    by_cases he : (rread (x.drop a.toNat) 7).2.2 = 0
    · have hb := rread_bound (okRd_drop hx a.toNat) he
      rw [List.length_drop] at hb
      rw [if_neg (by simpa using he)] at h ⊢
      have := decCs_bound x hx k _ (acc ++ [mkCh (rread (x.drop a.toNat) 7).1]) (by omega) (by omega) h
      simp only [List.length_append, List.length_cons, List.length_nil] at this
      exact ⟨by omega, this.2.1, by omega⟩
    · rw [if_pos he] at h
      exact absurd h he

/-- what a decoder hands back -/
def dp (r : Int × Int × List (List Cell) × Int × Int) : List AV × List Block :=
  ([.agg [.int .i64 r.1, .int .i64 r.2.1, .sl true 50 r.2.2.1], .one (.int .i64 r.2.2.2.1), .one (.int .i64 r.2.2.2.2)], [])

def fin5 (a n : Int) (r : List (List Cell) × Int × Int) : Int × Int × List (List Cell) × Int × Int :=
  if r.2.2 ≠ 0 then (0, 0, [], 0, r.2.2) else if vProp a n r.1 ≠ 0 then (0, 0, [], 0, vProp a n r.1) else (a, n, r.1, r.2.1, 0)

theorem end69 (m : Nat) (t7 t8 : Int) (x : List (List Cell)) (o e a n : Int) (l : List (List Cell)) (he : e ≠ 0) :
    goF E (callOf L73) F69 0 (m + 1) P69_0 (M69_0 t7 t8 0 0 [] x o e a n l) = some (dp (0, 0, [], 0, e)) := by
  rw [e69_0]
  have h1 : (e == 0) = false := by simpa using he
  have h2 : (e != 0) = true := by simpa using he
  rw [h1, h2]
  cases (decide (t8 < t7)) <;> rfl

theorem fin69 (m : Nat) (t7 t8 : Int) (x : List (List Cell)) (o a n : Int) (l : List (List Cell)) (h : ¬ t8 < t7) (hl : l.length < 9223372036854775808) :
    goF E (callOf L73) F69 0 (m + 1) P69_0 (M69_0 t7 t8 0 0 [] x o 0 a n l) = some (dp (fin5 a n (l, o, 0))) := by
  rw [e69_0]
  refine cf (decide_eq_false h) (ct rfl (ct (decide_eq_true hl) ?_))
  unfold fin5
  rw [if_neg (by simp)]
  by_cases hv : vProp a n l = 0
  · rw [if_neg (by simpa using hv)]
    exact cf (by simpa using hv) rfl
  · rw [if_pos hv]
    exact ct (by simpa using hv) rfl

theorem l69 (x : List (List Cell)) (hx : okRd x = true) (k a n : Int) (hk : k ≤ 6) : ∀ (d i : Nat) (o : Int) (acc : List (List Cell)), i + d = k.toNat → 0 ≤ o → o ≤ x.length → acc.length = i →
    ∃ m, goF E (callOf L73) F69 0 m P69_0 (M69_0 k i 0 0 [] x o 0 a n acc) = some (dp (fin5 a n (decCs x d o acc))) := by
  intro d
  induction d with
  | zero =>
    intro i o acc hi h0 h1 ha
    exact ⟨1, by rw [fin69 0 _ _ _ _ _ _ _ (by omega) (by omega)]; rfl⟩
  | succ d ih =>
    intro i o acc hi h0 h1 ha
    have hc := chain_read hx h0 h1 7
    have a1 := okAt_mk hx h0 h1
    have a2 := rnum_at (e := 0) a1
    have a3 := rnum_at (e := (rnum x o 0).2.2) a2
    simp only [show (7 : Int).toNat = 7 from rfl, chain] at hc
    rw [show ((x.drop o.toNat) : List (List Cell)) = x.drop o.toNat from rfl] at hc
    have a4 := rnum_at (e := (rnum x (rnum x o 0).2.1 (rnum x o 0).2.2).2.2) a3
    generalize hp1 : rnum x o 0 = p1 at *
    generalize hp2 : rnum x p1.2.1 p1.2.2 = p2 at *
    generalize hp3 : rnum x p2.2.1 p2.2.2 = p3 at *
    have a5 := rnum_at (e := p3.2.2) a4
    generalize hp4 : rnum x p3.2.1 p3.2.2 = p4 at *
    have a6 := rnum_at (e := p4.2.2) a5
    generalize hp5 : rnum x p4.2.1 p4.2.2 = p5 at *
    have a7 := rnum_at (e := p5.2.2) a6
    generalize hp6 : rnum x p5.2.1 p5.2.2 = p6 at *
    generalize hp7 : rnum x p6.2.1 p6.2.2 = p7 at *
    obtain ⟨c1, c2⟩ := hc
    by_cases he : (rread (x.drop o.toNat) 7).2.2 = 0
    · obtain ⟨c3, c4⟩ := c2 he
      have hb := rread_bound (okRd_drop hx o.toNat) he
      rw [List.length_drop] at hb
      obtain ⟨m, hm⟩ := ih (i + 1) (o + (rread (x.drop o.toNat) 7).2.1) (acc ++ [mkCh (rread (x.drop o.toNat) 7).1]) (by omega) (by omega) (by omega) (by simp; omega)
      refine ⟨m + 1, ?_⟩
      rw [e69_0, hp1, hp2, hp3, hp4, hp5, hp6, hp7]
      refine ct (decide_eq_true (by omega)) (ct rfl (ct a1 (ct a2 (ct a3 (ct a4 (ct a5 (ct a6 (ct a7 (ct (fits_of (by simp; omega)) ?_)))))))))
      rw [nat_wrap (n := 6) (by omega) (by omega), c3, ← c1, he]
      simp only [decCs, if_neg (show ¬ (rread (x.drop o.toNat) 7).2.2 ≠ 0 by simpa using he)]
      refine Eq.trans ?_ hm
      rw [c4]
      rfl
    · refine ⟨2, ?_⟩
      rw [e69_0, hp1, hp2, hp3, hp4, hp5, hp6, hp7]
      refine ct (decide_eq_true (by omega)) (ct rfl (ct a1 (ct a2 (ct a3 (ct a4 (ct a5 (ct a6 (ct a7 (ct (fits_of (by simp; omega)) ?_)))))))))
      rw [end69 0 _ _ _ _ _ _ _ _ (by rw [← c1]; exact he), ← c1]
      simp only [decCs, if_pos he, fin5]

theorem decP_eq (x : List (List Cell)) : decP x = if (rread x 3).2.2 ≠ 0 then (0, 0, [], 0, (rread x 3).2.2) else if 6 < nr (Abs.rowAt (rread x 3).1 2) 0 then (0, 0, [], 0, 3)
    else fin5 (nr (Abs.rowAt (rread x 3).1 0) 0) (nr (Abs.rowAt (rread x 3).1 1) 0) (decCs x (nr (Abs.rowAt (rread x 3).1 2) 0).toNat (rread x 3).2.1 []) := rfl

theorem k69 (x : List (List Cell)) (hx : okRd x = true) : ∃ m, runF E (callOf L73) m 69 [.one (.sl false 5 x)] [] = some (dp (decP x)) := by
  have hc := chain_read hx (o := 0) (by omega) (by omega) 3
  have a1 := okAt_mk hx (o := 0) (by omega) (by omega)
  have a2 := rnum_at (e := 0) a1
  have a3 := rnum_at (e := (rnum x 0 0).2.2) a2
  simp only [show (3 : Int).toNat = 3 from rfl, show (0 : Int).toNat = 0 from rfl, List.drop_zero, chain] at hc
  generalize hp1 : rnum x 0 0 = p1 at *
  generalize hp2 : rnum x p1.2.1 p1.2.2 = p2 at *
  generalize hp3 : rnum x p2.2.1 p2.2.2 = p3 at *
  obtain ⟨c1, c2⟩ := hc
  rw [decP_eq]
  by_cases he : (rread x 3).2.2 = 0
  · obtain ⟨c3, c4⟩ := c2 he
    have hb := rread_bound hx he
    have e0 : nr (Abs.rowAt (rread x 3).1 0) 0 = p1.1 := by rw [c4]; rfl
    have e1 : nr (Abs.rowAt (rread x 3).1 1) 0 = p2.1 := by rw [c4]; rfl
    have e2 : nr (Abs.rowAt (rread x 3).1 2) 0 = p3.1 := by rw [c4]; rfl
    rw [if_neg (by simpa using he), e0, e1, e2]
    have hz : p3.2.2 = 0 := by rw [← c1]; exact he
    by_cases h6 : 6 < p3.1
    · refine ⟨2, ?_⟩
      rw [e69, hp1, hp2, hp3, if_pos h6]
      refine ct a1 (ct a2 (ct a3 (ct (by simpa using hz) (ct (decide_eq_true h6) ?_))))
      exact end69 0 _ _ _ _ _ _ _ _ (by decide)
    · obtain ⟨m, hm⟩ := l69 x hx p3.1 p1.1 p2.1 (by omega) p3.1.toNat 0 (rread x 3).2.1 [] (by omega) hb.1 hb.2.1 rfl
      refine ⟨m + 1, ?_⟩
      rw [e69, hp1, hp2, hp3, if_neg h6]
      refine ct a1 (ct a2 (ct a3 (ct (by simpa using hz) (cf (decide_eq_false h6) ?_))))
      rw [c3, hz, Int.zero_add]
      exact hm
  · refine ⟨2, ?_⟩
    rw [e69, hp1, hp2, hp3, if_pos he, c1]
    have hz : p3.2.2 ≠ 0 := by rw [← c1]; exact he
    refine ct a1 (ct a2 (ct a3 (cf (by simpa using hz) ?_)))
    exact end69 0 _ _ _ _ _ _ _ _ hz

theorem l71 (x : List (List Cell)) (hx : okRd x = true) (t : List (List Cell)) (k a n : Int) (ht : t.length = 3) (htk : nr (Abs.rowAt t 2) 0 = k) (hk : k ≤ 6) : ∀ (d i : Nat) (o : Int) (acc : List (List Cell)), i + d = k.toNat → 0 ≤ o → o ≤ x.length → acc.length = i →
    ∃ m, goF E (callOf L75) F71 0 m P71_0 (M71_0 x t o i 0 0 [] a n acc) = some (dp (fin5 a n (decCs x d o acc))) := by
  intro d
  induction d with
  | zero =>
    intro i o acc hi h0 h1 ha
    refine ⟨1, ?_⟩
    rw [e71_0, htk]
    refine ct (inB_of (by omega) (by omega)) (cf (decide_eq_false (by omega)) (ct (decide_eq_true (by omega)) ?_))
    unfold fin5 decCs
    rw [if_neg (by simp)]
    by_cases hv : vProp a n acc = 0
    · rw [if_neg (by simpa using hv)]
      exact cf (by simpa using hv) rfl
    · rw [if_pos hv]
      exact ct (by simpa using hv) rfl
  | succ d ih =>
    intro i o acc hi h0 h1 ha
    have h4 := okRd_drop hx o.toNat
    by_cases he : (rread (x.drop o.toNat) 7).2.2 = 0
    · have hb := rread_bound h4 he
      rw [List.length_drop] at hb
      have h7 : (rread (x.drop o.toNat) 7).1.length = 7 := hb.2.2.1
      obtain ⟨m, hm⟩ := ih (i + 1) (o + (rread (x.drop o.toNat) 7).2.1) (acc ++ [mkCh (rread (x.drop o.toNat) 7).1]) (by omega) (by omega) (by omega) (by simp; omega)
      refine ⟨m + 1, ?_⟩
      have hl := (okRd_of hx).2
      rw [e71_0, htk, dropN_eq]
      refine ct (inB_of (by omega) (by omega)) (ct (decide_eq_true (by omega)) (ct (inB_of h0 (by omega)) (ct (by simp [h4]) (cf (by simpa using he) ?_))))
      refine ct (inB_of (by omega) (by omega)) (ct (inB_of (by omega) (by omega)) (ct (inB_of (by omega) (by omega)) (ct (inB_of (by omega) (by omega)) (ct (inB_of (by omega) (by omega)) (ct (inB_of (by omega) (by omega)) (ct (inB_of (by omega) (by omega)) (ct (fits_of (by simp; omega)) ?_)))))))
      rw [nat_wrap (n := 6) (by omega) (by omega), wrap64 (by omega) (by omega)]
      simp only [decCs, if_neg (show ¬ (rread (x.drop o.toNat) 7).2.2 ≠ 0 by simpa using he)]
      exact hm
    · refine ⟨1, ?_⟩
      rw [e71_0, htk, dropN_eq]
      refine ct (inB_of (by omega) (by omega)) (ct (decide_eq_true (by omega)) (ct (inB_of h0 (by omega)) (ct (by simp [h4]) (ct (by simpa using he) ?_))))
      simp only [decCs, if_pos he, fin5]
      rfl

theorem k71 (x : List (List Cell)) (hx : okRd x = true) : ∃ m, runF E (callOf L75) m 71 [.one (.sl false 5 x)] [] = some (dp (decP x)) := by
  rw [decP_eq]
  by_cases he : (rread x 3).2.2 = 0
  · have hb := rread_bound hx he
    have h3 : (rread x 3).1.length = 3 := hb.2.2.1
    rw [if_neg (by simpa using he)]
    by_cases h6 : 6 < nr (Abs.rowAt (rread x 3).1 2) 0
    · refine ⟨1, ?_⟩
      rw [e71, if_pos h6]
      exact ct (by simp [hx]) (cf (by simpa using he) (ct (inB_of (by omega) (by omega)) (ct (decide_eq_true h6) rfl)))
    · obtain ⟨m, hm⟩ := l71 x hx (rread x 3).1 _ (nr (Abs.rowAt (rread x 3).1 0) 0) (nr (Abs.rowAt (rread x 3).1 1) 0) h3 rfl (by omega) _ 0 (rread x 3).2.1 [] (Nat.zero_add _) hb.1 hb.2.1 rfl
      refine ⟨m + 1, ?_⟩
      rw [e71, if_neg h6]
      exact ct (by simp [hx]) (cf (by simpa using he) (ct (inB_of (by omega) (by omega)) (cf (decide_eq_false h6) (ct (inB_of (by omega) (by omega)) (ct (inB_of (by omega) (by omega)) hm)))))
  · refine ⟨1, ?_⟩
    rw [e71, if_pos he]
    exact ct (by simp [hx]) (ct (by simpa using he) rfl)

/-- numbers that the reader takes -/
def small (l : List (List Cell)) : Prop := ∀ r ∈ l, 0 ≤ nr r 0 ∧ nr r 0 ≤ 2147483647

def reNum (r : List Cell) : List Cell := [.int .i64 (nr r 0)]

def reCh (r : List Cell) : List Cell := [.int .i64 (nr r 0), .int .i64 (nr r 1), .int .i64 (nr r 2), .int .i64 (nr r 3), .int .i64 (nr r 4), .int .i64 (nr r 5), .int .i64 (nr r 6)]

theorem rnum2_enc {v : Int} (h0 : 0 ≤ v) (h1 : v ≤ 2147483647) (rest : List (List Cell)) : rnum2 (uenc (IntKind.wrap .u64 v) ++ rest) = (v, ((uenc (IntKind.wrap .u64 v)).length : Int), 0) := by
  have h := udec_uenc (v := IntKind.wrap .u64 v) (wrapu_range v).1 (wrapu_range v).2 rest
  unfold rnum2
  rw [h, if_neg (by simp), wrapu h0 (by omega)]
  simp only
  rw [if_neg (by omega)]

theorem rread_enc (rest : List (List Cell)) : ∀ (l pre acc : List (List Cell)), small l →
    rreadF (pre ++ (encL l ++ rest)) l.length pre.length acc = (acc ++ l.map reNum, ((pre.length + (encL l).length : Nat) : Int), 0)
  | [], pre, acc, _ => by simp [rreadF, encL]
  | r :: l, pre, acc, h => by
    have hr := h r (List.mem_cons_self)
    have ih := rread_enc rest l (pre ++ uenc (IntKind.wrap .u64 (nr r 0))) (acc ++ [reNum r]) (fun q hq => h q (List.mem_cons_of_mem _ hq))
    have e : (pre ++ (encL (r :: l) ++ rest)).drop ((pre.length : Nat) : Int).toNat = uenc (IntKind.wrap .u64 (nr r 0)) ++ (encL l ++ rest) := by
      rw [Int.toNat_natCast, List.drop_left, encL, List.append_assoc]
    rw [List.length_cons, rreadF, e, rnum2_enc hr.1 hr.2, if_neg (by simp)]
    simp only
    have e2 : pre ++ (encL (r :: l) ++ rest) = (pre ++ uenc (IntKind.wrap .u64 (nr r 0))) ++ (encL l ++ rest) := by
      rw [encL]; simp only [List.append_assoc]
    rw [e2, ← Int.natCast_add, ← List.length_append]
    refine ih.trans ?_
    simp only [List.map_cons, List.append_assoc, List.length_append, encL, List.cons_append, List.nil_append]
    congr 3
    omega

theorem mkCh_enc (r : List Cell) : mkCh ((chNums r).map reNum) = reCh r := rfl

theorem small_app {x y : List (List Cell)} : small (x ++ y) ↔ small x ∧ small y := by
  unfold small
  simp only [List.mem_append]
  exact ⟨fun h => ⟨fun r hr => h r (Or.inl hr), fun r hr => h r (Or.inr hr)⟩, fun h r hr => hr.elim (h.1 r) (h.2 r)⟩

theorem decCs_enc (rest : List (List Cell)) : ∀ (c pre acc : List (List Cell)), small (chsNums c) →
    decCs (pre ++ (encL (chsNums c) ++ rest)) c.length pre.length acc = (acc ++ c.map reCh, ((pre.length + (encL (chsNums c)).length : Nat) : Int), 0)
  | [], pre, acc, _ => by simp [decCs, encL, chsNums]
  | r :: c, pre, acc, h => by
    rw [chsNums, small_app] at h
    have ih := decCs_enc rest c (pre ++ encL (chNums r)) (acc ++ [reCh r]) h.2
    have e : (pre ++ (encL (chsNums (r :: c)) ++ rest)).drop ((pre.length : Nat) : Int).toNat = [] ++ (encL (chNums r) ++ (encL (chsNums c) ++ rest)) := by
      rw [Int.toNat_natCast, List.drop_left, chsNums, encL_app, List.append_assoc, List.nil_append]
    have e7 := rread_enc (encL (chsNums c) ++ rest) (chNums r) [] [] h.1
    have e7' : rread ([] ++ (encL (chNums r) ++ (encL (chsNums c) ++ rest))) 7 = ((chNums r).map reNum, ((encL (chNums r)).length : Int), 0) := by
      simpa [rread, chNums] using e7
    rw [List.length_cons, decCs, e, e7', if_neg (by simp)]
    simp only
    have e2 : pre ++ (encL (chsNums (r :: c)) ++ rest) = (pre ++ encL (chNums r)) ++ (encL (chsNums c) ++ rest) := by
      rw [chsNums, encL_app]; simp only [List.append_assoc]
    rw [e2, ← Int.natCast_add, ← List.length_append, mkCh_enc]
    refine ih.trans ?_
    simp only [List.map_cons, List.append_assoc, List.length_append, chsNums, encL_app, List.cons_append, List.nil_append]
    congr 3
    omega

theorem vChR_re (r : List Cell) : vChR (reCh r) = vChR r := rfl

theorem dup_re (pre : List (List Cell)) (r : List Cell) : dup (pre.map reCh) (reCh r) = dup pre r := by
  unfold dup
  rw [List.any_map]
  rfl

theorem vChs_re : ∀ (c pre : List (List Cell)), vChs (pre.map reCh) (c.map reCh) = vChs pre c
  | [], _ => rfl
  | r :: c, pre => by
    rw [List.map_cons, vChs, vChs, vChR_re, dup_re]
    have := vChs_re c (pre ++ [r])
    rw [List.map_append] at this
    simp only [List.map_cons, List.map_nil] at this
    rw [this]

theorem vProp_re (a n : Int) (c : List (List Cell)) : vProp a n (c.map reCh) = vProp a n c := by
  unfold vProp
  rw [List.length_map]
  have := vChs_re c []
  simp only [List.map_nil] at this
  rw [this]

theorem vChs_all : ∀ (c pre : List (List Cell)), vChs pre c = 0 → ∀ r ∈ c, vChR r = 0
  | [], _, _, r, hr => by cases hr
  | q :: c, pre, h, r, hr => by
    rw [vChs] at h
    by_cases h0 : vChR q = 0
    · rw [if_neg (by simpa using h0)] at h
      split at h
      · simp at h
      · rcases List.mem_cons.1 hr with rfl | hr
        · exact h0
        · exact vChs_all c _ h r hr
    · rw [if_pos h0] at h
      exact absurd h h0

theorem vChR_small {r : List Cell} (h : vChR r = 0) : small (chNums r) := by
  unfold vChR vChange vRule at h
  have hh : 0 ≤ nr r 0 ∧ nr r 0 ≤ 1000 ∧ 0 ≤ nr r 1 ∧ nr r 1 ≤ 1000 ∧ 0 ≤ nr r 2 ∧ nr r 2 ≤ 1000 ∧ 0 ≤ nr r 3 ∧ nr r 3 ≤ 1000 ∧ 0 ≤ nr r 4 ∧ nr r 4 ≤ 1000 ∧ 0 ≤ nr r 5 ∧ nr r 5 ≤ 1000 ∧ 0 ≤ nr r 6 ∧ nr r 6 ≤ 1000 := by
    generalize nr r 0 = k at *
    generalize nr r 1 = s at *
    generalize nr r 2 = w at *
    generalize nr r 3 = v at *
    generalize nr r 4 = rk at *
    generalize nr r 5 = rc at *
    generalize nr r 6 = rf at *
    (repeat' split at h) <;> first | omega | (simp at h)
  intro q hq
  simp only [chNums, List.mem_cons, List.not_mem_nil, or_false] at hq
  rcases hq with rfl | rfl | rfl | rfl | rfl | rfl | rfl <;> simp only [nr, cellAt, Cell.toInt] at hh ⊢ <;> omega

theorem chs_small : ∀ (c : List (List Cell)), (∀ r ∈ c, vChR r = 0) → small (chsNums c)
  | [], _ => fun r hr => by cases hr
  | r :: c, h => by
    rw [chsNums, small_app]
    exact ⟨vChR_small (h r (List.mem_cons_self)), chs_small c (fun q hq => h q (List.mem_cons_of_mem _ hq))⟩

theorem vProp_ok {a n : Int} {c : List (List Cell)} (h : vProp a n c = 0) : 201 ≤ a ∧ a < 204 ∧ 1 ≤ n ∧ n ≤ 3 ∧ 1 ≤ c.length ∧ c.length ≤ 6 ∧ vChs [] c = 0 := by
  unfold vProp at h
  split at h
  · simp at h
  · split at h
    · simp at h
    · split at h
      · simp at h
      · omega

theorem eqChs_re : ∀ (c : List (List Cell)), eqChs c (c.map reCh) = true
  | [] => rfl
  | r :: c => by
    rw [List.map_cons, eqChs]
    show (eqChR r (reCh r) && eqChs c (c.map reCh)) = true
    rw [eqChs_re c, Bool.and_true]
    simp [eqChR, eqCh, reCh, nr, cellAt, Cell.toInt]

/-- a valid proposal is read back, whatever follows -/
theorem decP_enc {a n : Int} {c : List (List Cell)} (h : vProp a n c = 0) (rest : List (List Cell)) : decP (encP a n c ++ rest) = (a, n, c.map reCh, ((encP a n c).length : Int), 0) := by
  obtain ⟨h1, h2, h3, h4, h5, h6, h7⟩ := vProp_ok h
  have hs : small (headNums a n c.length) := by
    intro q hq
    simp only [headNums, List.mem_cons, List.not_mem_nil, or_false] at hq
    rcases hq with rfl | rfl | rfl <;> simp only [nr, cellAt, Cell.toInt] <;> omega
  have hc := chs_small c (vChs_all c [] h7)
  have e : encP a n c ++ rest = [] ++ (encL (headNums a n c.length) ++ (encL (chsNums c) ++ rest)) := by
    rw [encP, encL_app, List.append_assoc, List.nil_append]
  have e3 : rread (encP a n c ++ rest) 3 = ((headNums a n c.length).map reNum, ((encL (headNums a n c.length)).length : Int), 0) := by
    have := rread_enc (encL (chsNums c) ++ rest) (headNums a n c.length) [] [] hs
    rw [← e] at this
    simpa [rread, headNums] using this
  have e4 : decCs (encP a n c ++ rest) c.length ((encL (headNums a n c.length)).length : Int) [] = (c.map reCh, ((encP a n c).length : Int), 0) := by
    have := decCs_enc rest c (encL (headNums a n c.length)) [] hc
    have e5 : encL (headNums a n c.length) ++ (encL (chsNums c) ++ rest) = encP a n c ++ rest := by
      rw [encP, encL_app, List.append_assoc]
    rw [e5] at this
    rw [this, encP, encL_app, List.length_append, List.nil_append]
  rw [decP_eq, e3, if_neg (by simp)]
  have k0 : nr (Abs.rowAt ((headNums a n c.length).map reNum) 0) 0 = a := rfl
  have k1 : nr (Abs.rowAt ((headNums a n c.length).map reNum) 1) 0 = n := rfl
  have k2 : nr (Abs.rowAt ((headNums a n c.length).map reNum) 2) 0 = (c.length : Int) := rfl
  simp only [k0, k1, k2, Int.toNat_natCast]
  rw [if_neg (by omega), e4]
  unfold fin5
  simp only
  rw [if_neg (by simp), vProp_re, h, if_neg (by simp)]

theorem eqP_re (a n : Int) (c : List (List Cell)) : eqP a n c a n (c.map reCh) = true := by
  simp [eqP, eqChs_re]

theorem eqChs_re2 : ∀ (c : List (List Cell)), eqChs (c.map reCh) c = true
  | [] => rfl
  | r :: c => by
    rw [List.map_cons, eqChs]
    show (eqChR (reCh r) r && eqChs (c.map reCh) c) = true
    rw [eqChs_re2 c, Bool.and_true]
    simp [eqChR, eqCh, reCh, nr, cellAt, Cell.toInt]

theorem eqP_re2 (a n : Int) (c : List (List Cell)) : eqP a n (c.map reCh) a n c = true := by
  simp [eqP, eqChs_re2]

theorem encP_len (a n : Int) (c : List (List Cell)) : (encP a n c).length ≤ 30 + 70 * c.length := by
  have := encL_len (headNums a n c.length ++ chsNums c)
  rw [List.length_append, chsNums_len] at this
  have h3 : (headNums a n c.length).length = 3 := rfl
  unfold encP
  omega

theorem decP_len (x : List (List Cell)) (hx : okRd x = true) : (decP x).2.2.1.length ≤ 6 := by
  rw [decP_eq]
  split
  · simp
  · rename_i h0
    split
    · simp
    · rename_i h6
      unfold fin5
      split
      · simp
      · rename_i h1
        split
        · simp
        · have hb := rread_bound hx (c := 3) (by simpa using h0)
          have := (decCs_bound x hx _ _ [] hb.1 hb.2.1 (by simpa using h1)).2.2
          simp only [this, List.length_nil]
          omega

theorem rnum2_cut {v : Int} {n : Nat} (hn : n < (uenc (IntKind.wrap .u64 v)).length) : rnum2 ((uenc (IntKind.wrap .u64 v)).take n) = (0, 0, 1) := by
  have h := udec_cut (v := IntKind.wrap .u64 v) (wrapu_range v).1 (wrapu_range v).2 hn
  unfold rnum2
  rw [h, if_pos (by simp)]

theorem rread_cut : ∀ (l pre acc : List (List Cell)) (k : Nat), small l → k < (encL l).length → rreadF (pre ++ (encL l).take k) l.length pre.length acc = ([], 0, 1)
  | [], pre, acc, k, _, hk => by simp [encL] at hk
  | r :: l, pre, acc, k, h, hk => by
    have hr := h r (List.mem_cons_self)
    rw [encL, List.length_append] at hk
    by_cases hc : k < (uenc (IntKind.wrap .u64 (nr r 0))).length
    · have e : (pre ++ (encL (r :: l)).take k).drop ((pre.length : Nat) : Int).toNat = (uenc (IntKind.wrap .u64 (nr r 0))).take k := by
        rw [Int.toNat_natCast, List.drop_left, encL, List.take_append_of_le_length (by omega)]
      rw [List.length_cons, rreadF, e, rnum2_cut hc, if_pos (by simp)]
    · have ih := rread_cut l (pre ++ uenc (IntKind.wrap .u64 (nr r 0))) (acc ++ [reNum r]) (k - (uenc (IntKind.wrap .u64 (nr r 0))).length) (fun q hq => h q (List.mem_cons_of_mem _ hq)) (by omega)
      have et : (encL (r :: l)).take k = uenc (IntKind.wrap .u64 (nr r 0)) ++ (encL l).take (k - (uenc (IntKind.wrap .u64 (nr r 0))).length) := by
        rw [encL, List.take_append, List.take_of_length_le (by omega)]
      have e : (pre ++ (encL (r :: l)).take k).drop ((pre.length : Nat) : Int).toNat = uenc (IntKind.wrap .u64 (nr r 0)) ++ (encL l).take (k - (uenc (IntKind.wrap .u64 (nr r 0))).length) := by
        rw [Int.toNat_natCast, List.drop_left, et]
      rw [List.length_cons, rreadF, e, rnum2_enc hr.1 hr.2, if_neg (by simp)]
      simp only
      rw [et, ← List.append_assoc, ← Int.natCast_add, ← List.length_append]
      exact ih

theorem decCs_cut : ∀ (c pre acc : List (List Cell)) (k : Nat), small (chsNums c) → k < (encL (chsNums c)).length → (decCs (pre ++ (encL (chsNums c)).take k) c.length pre.length acc).2.2 = 1
  | [], pre, acc, k, _, hk => by simp [encL, chsNums] at hk
  | r :: c, pre, acc, k, h, hk => by
    rw [chsNums, small_app] at h
    rw [chsNums, encL_app, List.length_append] at hk
    by_cases hc : k < (encL (chNums r)).length
    · have e : (pre ++ (encL (chsNums (r :: c))).take k).drop ((pre.length : Nat) : Int).toNat = [] ++ (encL (chNums r)).take k := by
        rw [Int.toNat_natCast, List.drop_left, chsNums, encL_app, List.take_append_of_le_length (by omega), List.nil_append]
      have e7 := rread_cut (chNums r) [] [] k h.1 hc
      have e7' : rread ([] ++ (encL (chNums r)).take k) 7 = ([], 0, 1) := e7
      rw [List.length_cons, decCs, e, e7', if_pos (by simp)]
    · have et : (encL (chsNums (r :: c))).take k = encL (chNums r) ++ (encL (chsNums c)).take (k - (encL (chNums r)).length) := by
        rw [chsNums, encL_app, List.take_append, List.take_of_length_le (by omega)]
      have ih := decCs_cut c (pre ++ encL (chNums r)) (acc ++ [reCh r]) (k - (encL (chNums r)).length) h.2 (by omega)
      have e : (pre ++ (encL (chsNums (r :: c))).take k).drop ((pre.length : Nat) : Int).toNat = [] ++ (encL (chNums r) ++ (encL (chsNums c)).take (k - (encL (chNums r)).length)) := by
        rw [Int.toNat_natCast, List.drop_left, et, List.nil_append]
      have e7 := rread_enc ((encL (chsNums c)).take (k - (encL (chNums r)).length)) (chNums r) [] [] h.1
      have e7' : rread ([] ++ (encL (chNums r) ++ (encL (chsNums c)).take (k - (encL (chNums r)).length))) 7 = ((chNums r).map reNum, ((encL (chNums r)).length : Int), 0) := by
        simpa [rread, chNums] using e7
      rw [List.length_cons, decCs, e, e7', if_neg (by simp)]
      simp only
      rw [et, ← List.append_assoc, ← Int.natCast_add, ← List.length_append, mkCh_enc]
      exact ih

theorem decP_cut {a n : Int} {c : List (List Cell)} (h : vProp a n c = 0) {k : Nat} (hk : k < (encP a n c).length) : (decP ((encP a n c).take k)).2.2.2.2 = 1 := by
  obtain ⟨h1, h2, h3, h4, h5, h6, h7⟩ := vProp_ok h
  have hs : small (headNums a n c.length) := by
    intro q hq
    simp only [headNums, List.mem_cons, List.not_mem_nil, or_false] at hq
    rcases hq with rfl | rfl | rfl <;> simp only [nr, cellAt, Cell.toInt] <;> omega
  have hc := chs_small c (vChs_all c [] h7)
  rw [encP, encL_app, List.length_append] at hk
  rw [decP_eq]
  by_cases hk1 : k < (encL (headNums a n c.length)).length
  · have e : (encP a n c).take k = [] ++ (encL (headNums a n c.length)).take k := by
      rw [encP, encL_app, List.take_append_of_le_length (by omega), List.nil_append]
    have e3 : rread ([] ++ (encL (headNums a n c.length)).take k) 3 = ([], 0, 1) := rread_cut (headNums a n c.length) [] [] k hs hk1
    rw [e, e3, if_pos (by simp)]
  · have et : (encP a n c).take k = encL (headNums a n c.length) ++ (encL (chsNums c)).take (k - (encL (headNums a n c.length)).length) := by
      rw [encP, encL_app, List.take_append, List.take_of_length_le (by omega)]
    have e3 : rread ((encP a n c).take k) 3 = ((headNums a n c.length).map reNum, ((encL (headNums a n c.length)).length : Int), 0) := by
      have := rread_enc ((encL (chsNums c)).take (k - (encL (headNums a n c.length)).length)) (headNums a n c.length) [] [] hs
      rw [et]
      simpa [rread, headNums] using this
    have e4 := decCs_cut c (encL (headNums a n c.length)) [] (k - (encL (headNums a n c.length)).length) hc (by omega)
    rw [← et] at e4
    rw [e3, if_neg (by simp)]
    have k0 : nr (Abs.rowAt ((headNums a n c.length).map reNum) 0) 0 = a := rfl
    have k1 : nr (Abs.rowAt ((headNums a n c.length).map reNum) 1) 0 = n := rfl
    have k2 : nr (Abs.rowAt ((headNums a n c.length).map reNum) 2) 0 = (c.length : Int) := rfl
    simp only [k0, k1, k2, Int.toNat_natCast]
    rw [if_neg (by omega)]
    unfold fin5
    rw [if_pos (by rw [e4]; simp)]
    exact e4

theorem encAll_app : ∀ (x y : List (List Cell)), encAll (x ++ y) = encAll x ++ encAll y
  | [], _ => rfl
  | r :: x, y => by rw [List.cons_append, encAll, encAll, encAll_app x y, List.append_assoc]

theorem encAll_okB : ∀ (x : List (List Cell)), okB (encAll x) = true
  | [] => rfl
  | r :: x => okB_app (encL_okB _) (encAll_okB x)

theorem encR_len {r : List Cell} (h : okProp r) : (encR r).length ≤ 450 := by
  have := encP_len (nr r 0) (nr r 1) (nl r 2)
  have := (vProp_ok h).2.2.2.2.2.1
  unfold encR
  omega

theorem encAll_len : ∀ (x : List (List Cell)), (∀ r ∈ x, okProp r) → (encAll x).length ≤ 450 * x.length
  | [], _ => by simp [encAll]
  | r :: x, h => by
    have := encR_len (h r (List.mem_cons_self))
    have := encAll_len x (fun q hq => h q (List.mem_cons_of_mem _ hq))
    simp only [encAll, List.length_append, List.length_cons]
    omega

theorem uenc_pos (v : Int) : 1 ≤ (uenc v).length := by
  unfold uenc uencF
  split <;> simp

theorem encR_pos (r : List Cell) : 1 ≤ (encR r).length := by
  unfold encR encP headNums
  simp only [List.cons_append, encL, List.length_append]
  have := uenc_pos (IntKind.u64.wrap (nr [Cell.int IntKind.i64 (nr r 0)] 0))
  omega

theorem k46 (n k : Int) (hk : k ≤ 4611686018427387904) : runF E (callOf L71) 1 46 [.one (.int .i64 n), .one (.int .i64 k)] [] = some ([.one (.int .i64 (gIndex n k))], []) := by
  rw [e46]
  unfold gIndex
  by_cases h : k < 1
  · rw [if_pos h]
    exact ct (decide_eq_true h) rfl
  · rw [if_neg h]
    refine cf (decide_eq_false h) (cf (decide_eq_false (by omega)) (cf (decide_eq_false (by omega)) ?_))
    have h0 := Int.emod_nonneg n (show k ≠ 0 by omega)
    have h1 := Int.emod_lt_of_pos n (show 0 < k by omega)
    have hn : (k.natAbs : Int) = k := by omega
    have e : Int.tmod n k = n % k ∨ Int.tmod n k = n % k - k := by
      rw [Int.tmod_eq_emod]
      split
      · left; omega
      · right; omega
    refine congrArg (fun z => some ([AV.one (AC.int .i64 z)], ([] : List Block))) ?_
    rcases e with e | e
    · rw [e, wrap64 (by omega) (by omega), Int.tmod_eq_emod_of_nonneg (by omega), Int.add_emod_right]
      exact Int.emod_eq_of_lt h0 h1
    · rw [e, Int.sub_add_cancel, wrap64 (by omega) (by omega), Int.tmod_eq_emod_of_nonneg (by omega)]
      exact Int.emod_eq_of_lt h0 h1

theorem gDigit_range (n b j : Int) (hb : 2 ≤ b) : 0 ≤ gDigit n b j ∧ gDigit n b j < b := by
  unfold gDigit
  exact ⟨Int.emod_nonneg _ (by omega), Int.emod_lt_of_pos _ (by omega)⟩

theorem l43 (n b j : Int) (hb : 2 ≤ b) (hj : j ≤ 9223372036854775807) : ∀ (d i : Nat), i + d = j.toNat →
    ∃ m, goF E (callOf L46) F43 0 m P43_0 (M43_0 b j (n % 1099511627776 / b ^ i) i) = some ([.one (.int .i64 (gDigit n b j))], [])
  | 0, i, hi => by
    refine ⟨1, ?_⟩
    rw [e43_0]
    have hp : (0 : Int) < b ^ i := Int.pow_pos (by omega)
    refine cf (decide_eq_false (by omega)) (cf (decide_eq_false (by omega)) ?_)
    rw [Int.tmod_eq_emod_of_nonneg (Int.ediv_nonneg (Int.emod_nonneg _ (by omega)) (by omega))]
    unfold gDigit
    rw [show j.toNat = i by omega]
  | d + 1, i, hi => by
    obtain ⟨m, hm⟩ := l43 n b j hb hj d (i + 1) (by omega)
    refine ⟨m + 1, ?_⟩
    have hp : (0 : Int) < b ^ i := Int.pow_pos (by omega)
    have h0 : 0 ≤ n % 1099511627776 / b ^ i := Int.ediv_nonneg (Int.emod_nonneg _ (by omega)) (by omega)
    have h1 : n % 1099511627776 / b ^ i < 1099511627776 := Int.lt_of_le_of_lt (Int.ediv_le_self _ (Int.emod_nonneg _ (by omega))) (Int.emod_lt_of_pos _ (by omega))
    have h2 : 0 ≤ n % 1099511627776 / b ^ i / b := Int.ediv_nonneg h0 (by omega)
    have h3 : n % 1099511627776 / b ^ i / b ≤ n % 1099511627776 / b ^ i := Int.ediv_le_self _ h0
    rw [e43_0]
    refine ct (decide_eq_true (by omega)) (cf (decide_eq_false (by omega)) ?_)
    rw [Int.tdiv_eq_ediv_of_nonneg h0, wrap64 (by omega) (by omega), wrap64 (by omega) (by omega), show (i : Int) + 1 = ((i + 1 : Nat) : Int) by omega]
    rw [Int.ediv_ediv, if_neg (fun h => by omega), Int.sub_zero, ← Int.pow_succ]
    exact hm

theorem k43 (n b j : Int) (hb : 2 ≤ b) (hj : j ≤ 9223372036854775807) : ∃ m, runF E (callOf L46) m 43 [.one (.int .i64 n), .one (.int .i64 b), .one (.int .i64 j)] [] = some ([.one (.int .i64 (gDigit n b j))], []) := by
  obtain ⟨m, hm⟩ := l43 n b j hb hj j.toNat 0 (by omega)
  refine ⟨m + 1, ?_⟩
  rw [e43]
  refine ct (decide_eq_true (by omega)) ?_
  simpa [gIndex] using hm

theorem k44 (l : List (List Cell)) (j : Int) (hl : l.length < 4611686018427387904) : runF E (callOf L43) 1 44 [.one (.sl false 3 l), .one (.int .i64 j)] [] = some ([.one (.int .i64 (gAt l j))], []) := by
  rw [e44]
  unfold gAt
  by_cases h : l.length = 0
  · rw [if_pos h]
    exact ct (beq_iff_eq.2 (by omega)) rfl
  · rw [if_neg h]
    have e : gIndex j l.length = j % l.length := by
      unfold gIndex
      rw [if_neg (by omega)]
    have h0 := Int.emod_nonneg j (show (l.length : Int) ≠ 0 by omega)
    have h1 := Int.emod_lt_of_pos j (show (0 : Int) < l.length by omega)
    rw [e]
    exact cf (beq_eq_false_iff_ne.2 (by omega)) (ct (decide_eq_true (by omega)) (ct (inB_of h0 (by omega)) rfl))

theorem k66 (n : Int) : runF E (callOf L44) 1 66 [.one (.int .i64 n)] [] = some ([.agg [.int .i64 (gRule n).1, .int .i64 (gRule n).2.1, .int .i64 (gRule n).2.2]], []) := by
  rw [e66]
  have h := gDigit_range n 8 0 (by omega)
  have h4 := gDigit_range n 4 2 (by omega)
  rw [wrap64 (n := 1 + gDigit n 4 2) (by omega) (by omega)]
  unfold gRule
  generalize gDigit n 8 0 = d at *
  have hd : d = 0 ∨ d = 1 ∨ d = 2 ∨ d = 3 ∨ d = 4 ∨ d = 5 ∨ d = 6 ∨ d = 7 := by omega
  rcases hd with rfl | rfl | rfl | rfl | rfl | rfl | rfl | rfl <;> rfl

theorem k45 (n : Int) : runF E (callOf L66) 1 45 [.one (.int .i64 n)] [] = some ([.agg [.int .i64 (gCh n 0), .int .i64 (gCh n 1), .int .i64 (gCh n 2), .int .i64 (gCh n 3), .int .i64 (gCh n 4), .int .i64 (gCh n 5), .int .i64 (gCh n 6)]], []) := by
  rw [e45]
  have h := gDigit_range n 8 0 (by omega)
  have h1 := gDigit_range n 8 1 (by omega)
  have h2 := gDigit_range n 4 3 (by omega)
  have h3 := gDigit_range n 2 9 (by omega)
  have h4 := gDigit_range n 12 1 (by omega)
  have h5 : IntKind.wrap .i64 (Int.tdiv (gIndex n 1099511627776) 64) = n % 1099511627776 / 64 := by
    have e : gIndex n 1099511627776 = n % 1099511627776 := by unfold gIndex; rw [if_neg (by omega)]
    rw [e, Int.tdiv_eq_ediv_of_nonneg (by omega), wrap64 (by omega) (by omega)]
  rw [wrap64 (n := 1 + gDigit n 8 1) (by omega) (by omega), wrap64 (n := 1 + gDigit n 4 3) (by omega) (by omega), wrap64 (n := 1 + gDigit n 2 9) (by omega) (by omega), wrap64 (n := 1 + gDigit n 12 1) (by omega) (by omega), h5]
  unfold gCh
  generalize gDigit n 8 0 = d at *
  have hd : d = 0 ∨ d = 1 ∨ d = 2 ∨ d = 3 ∨ d = 4 ∨ d = 5 ∨ d = 6 ∨ d = 7 := by omega
  rcases hd with rfl | rfl | rfl | rfl | rfl | rfl | rfl | rfl <;> rfl

theorem in22 (l : List (List Cell)) (hl : l.length < 4611686018427387904) (a : Nat) (ha : a < 3) (K : Int) (hK : K = gDigit (gAt l a) 4 0) (R : List AV × List Block) : ∀ (d i : Nat) (p : Int) (acc : List (List Cell)), i + d = K.toNat → 0 ≤ p → p ≤ 1000 + 2 * i → acc.length ≤ 1000 + i →
    (∃ m, goF E (callOf L45) F22 0 m P22_0 (M22_0 l (gIn l a d i p acc).1 (gIn l a d i p acc).2 ((a + 1 : Nat) : Int)) = some R) →
    ∃ m, goF E (callOf L45) F22 0 m P22_1 (M22_1 l acc p a i) = some R
  | 0, i, p, acc, hi, h0, h1, h2, hr => by
    obtain ⟨m, hm⟩ := hr
    refine ⟨m + 1, ?_⟩
    rw [e22_1, ← hK]
    refine ct (decide_eq_true hl) (ct rfl (cf (decide_eq_false (by omega)) ?_))
    rw [wrap64 (by omega) (by omega)]
    exact hm
  | d + 1, i, p, acc, hi, h0, h1, h2, hr => by
    have hk := gDigit_range (gAt l a) 4 0 (by omega)
    obtain ⟨m, hm⟩ := in22 l hl a ha K hK R d (i + 1) (p + 2) (acc ++ [gProp l a i p]) (by omega) (by omega) (by omega) (by simp; omega) hr
    refine ⟨m + 1, ?_⟩
    rw [e22_1, ← hK]
    refine ct (decide_eq_true hl) (ct rfl (ct (decide_eq_true (by omega)) (ct (decide_eq_true hl) (ct (decide_eq_true hl) (ct (decide_eq_true hl) (ct rfl ?_))))))
    rw [wrap64 (n := p + 1) (by omega) (by omega), wrap64 (n := p + 2) (by omega) (by omega), wrap64 (n := (i : Int) + 1) (by omega) (by omega), wrap64 (n := 201 + (a : Int)) (by omega) (by omega), fits_of (by simp; omega), fits_of (by simp; omega)]
    unfold gProp at hm
    by_cases hd : gDigit (gAt l p) 2 12 = 1
    · refine ct (by simpa using hd) ?_
      by_cases hx : gCh (gAt l (p + 1)) 0 = gCh (gAt l p) 0
      · refine cf (bne_eq_false_iff_eq.2 hx) ?_
        by_cases hy : gCh (gAt l (p + 1)) 1 = gCh (gAt l p) 1
        · rw [if_neg (by simp [hx, hy])] at hm
          exact cf (bne_eq_false_iff_eq.2 hy) (ct rfl hm)
        · rw [if_pos ⟨hd, Or.inr hy⟩] at hm
          exact ct (bne_iff_ne.2 hy) (ct rfl hm)
      · rw [if_pos ⟨hd, Or.inl hx⟩] at hm
        exact ct (bne_iff_ne.2 hx) (ct rfl hm)
    · rw [if_neg (fun h => hd h.1)] at hm
      exact cf (by simpa using hd) (ct rfl hm)

theorem gIn_bound (l : List (List Cell)) (a : Nat) : ∀ (d i : Nat) (p : Int) (acc : List (List Cell)), (gIn l a d i p acc).1.length = acc.length + d ∧ (gIn l a d i p acc).2 = p + 2 * d
  | 0, i, p, acc => by simp [gIn]
  | d + 1, i, p, acc => by
    have := gIn_bound l a d (i + 1) (p + 2) (acc ++ [gProp l a i p])
    simp only [gIn, List.length_append, List.length_cons, List.length_nil] at this ⊢
    omega

theorem out22 (l : List (List Cell)) (hl : l.length < 4611686018427387904) : ∀ (d a : Nat) (p : Int) (acc : List (List Cell)), a + d = 3 → 0 ≤ p → p ≤ 100 + 10 * a → acc.length ≤ 100 + 10 * a →
    ∃ m, goF E (callOf L45) F22 0 m P22_0 (M22_0 l acc p a) = some ([.one (.sl true 53 (gOut l d a p acc))], [])
  | 0, a, p, acc, ha, _, _, _ => by
    refine ⟨1, ?_⟩
    rw [e22_0]
    exact cf (decide_eq_false (by omega)) rfl
  | d + 1, a, p, acc, ha, h0, h1, h2 => by
    have hk := gDigit_range (gAt l a) 4 0 (by omega)
    have hb := gIn_bound l a (gDigit (gAt l a) 4 0).toNat 0 p acc
    have hrec := out22 l hl d (a + 1) (gIn l a (gDigit (gAt l a) 4 0).toNat 0 p acc).2 (gIn l a (gDigit (gAt l a) 4 0).toNat 0 p acc).1 (by omega) (by omega) (by omega) (by omega)
    obtain ⟨m, hm⟩ := in22 l hl a (by omega) _ rfl _ (gDigit (gAt l a) 4 0).toNat 0 p acc (by omega) h0 (by omega) (by omega) hrec
    refine ⟨m + 1, ?_⟩
    rw [e22_0]
    exact ct (decide_eq_true (by omega)) hm

theorem k22 (l : List (List Cell)) (hl : l.length < 4611686018427387904) : ∃ m, runF E (callOf L45) m 22 [.one (.sl false 3 l)] [] = some ([.one (.sl true 53 (gPool l))], []) := by
  obtain ⟨m, hm⟩ := out22 l hl 3 0 3 [] rfl (by omega) (by omega) (by simp)
  exact ⟨m + 1, by rw [e22]; exact hm⟩

theorem gRule_ok (n : Int) : vRule (gRule n).1 (gRule n).2.1 (gRule n).2.2 = 0 := by
  have h := gDigit_range n 8 0 (by omega)
  have h4 := gDigit_range n 4 2 (by omega)
  have h2 := gDigit_range n 2 3 (by omega)
  unfold gRule
  (repeat' split) <;> simp only [vRule] <;> (rw [if_neg (by omega), if_neg (by omega)])

theorem gCh_ok (n : Int) : vChR (gChR n) = 0 := by
  have h := gDigit_range n 8 0 (by omega)
  have h1 := gDigit_range n 8 1 (by omega)
  have h2 := gDigit_range n 4 3 (by omega)
  have h3 := gDigit_range n 2 9 (by omega)
  have h4 := gDigit_range n 12 1 (by omega)
  have hr := gRule_ok (n % 1099511627776 / 64)
  have hv : ∀ a b c d e f g : Int, vChR [.int .i64 a, .int .i64 b, .int .i64 c, .int .i64 d, .int .i64 e, .int .i64 f, .int .i64 g] = vChange a b c d e f g := fun _ _ _ _ _ _ _ => rfl
  show vChR (if gDigit n 8 0 ≤ 2 then _ else _) = 0
  (repeat' split) <;> rw [hv] <;> unfold vChange <;> (repeat' split) <;> first | rfl | exact hr | omega

theorem gProp_ok (l : List (List Cell)) (a i : Nat) (p : Int) (ha : a < 3) (hi : i < 3) : okProp (gProp l a i p) := by
  have hc := gCh_ok (gAt l p)
  have hx := gCh_ok (gAt l (p + 1))
  unfold okProp gProp
  simp only [nr, nl, cellAt, Cell.toInt, Cell.toRows]
  unfold vProp
  rw [if_neg (by omega)]
  split
  · rename_i h
    rw [if_neg (by simp), if_neg (by simp), vChs, if_neg (by simpa using hc), if_neg (by simp [dup]), vChs, if_neg (by simpa using hx), if_neg, vChs]
    simp only [dup, List.nil_append, List.any_cons, List.any_nil, Bool.or_false, sameCh, Bool.and_eq_true, beq_iff_eq]
    intro hs
    have e0 : gCh (gAt l (p + 1)) 0 = gCh (gAt l p) 0 := hs.1.symm
    have e1 : gCh (gAt l (p + 1)) 1 = gCh (gAt l p) 1 := hs.2.symm
    exact h.2.elim (fun h => h e0) (fun h => h e1)
  · rw [if_neg (by simp), if_neg (by simp), vChs, if_neg (by simpa using hc), if_neg (by simp [dup]), vChs]

theorem gIn_ok (l : List (List Cell)) (a : Nat) (ha : a < 3) : ∀ (d i : Nat) (p : Int) (acc : List (List Cell)), i + d ≤ 3 → (∀ r ∈ acc, okProp r) → ∀ r ∈ (gIn l a d i p acc).1, okProp r
  | 0, _, _, _, _, h => h
  | d + 1, i, p, acc, hi, h => by
    refine gIn_ok l a ha d (i + 1) (p + 2) _ (by omega) fun r hr => ?_
    rcases List.mem_append.1 hr with hr | hr
    · exact h r hr
    · rw [List.mem_singleton.1 hr]
      exact gProp_ok l a i p ha (by omega)

theorem gOut_ok (l : List (List Cell)) : ∀ (d a : Nat) (p : Int) (acc : List (List Cell)), a + d = 3 → (∀ r ∈ acc, okProp r) → acc.length ≤ 3 * a → (∀ r ∈ gOut l d a p acc, okProp r) ∧ (gOut l d a p acc).length ≤ 9
  | 0, _, _, _, ha, h, hl => ⟨h, by simp only [gOut]; omega⟩
  | d + 1, a, p, acc, ha, h, hl => by
    have hk := gDigit_range (gAt l a) 4 0 (by omega)
    have hb := gIn_bound l a (gDigit (gAt l a) 4 0).toNat 0 p acc
    exact gOut_ok l d (a + 1) _ _ (by omega) (gIn_ok l a (by omega) _ 0 p acc (by omega) h) (by omega)

theorem gPool_ok (l : List (List Cell)) : (∀ r ∈ gPool l, okProp r) ∧ (gPool l).length ≤ 9 :=
  gOut_ok l 3 0 3 [] rfl (fun r hr => by cases hr) (by simp)

end Go.Proofs.Ytdgijohgncchiaa
