/-
  The contracts of the functions that go through lists of changes.
-/
import Derived.Test.YtaafnpmijncpeaaPure1
namespace Go.Proofs.Ytaafnpmijncpeaa
open Go.Abs

theorem nat_wrap {i n : Nat} (h : i < n) (hn : n < 4611686018427387904) : IntKind.i64.wrap ((i : Int) + 1) = ((i + 1 : Nat) : Int) := by
  rw [wrap64 (by omega) (by omega)]
  omega

theorem in13 (c : List (List Cell)) (ap np : Int) (hc : c.length < 4611686018427387904) (i : Nat) (hi : i < c.length) (q0 q1 q2 q3 q4 q5 q6 : Int) (R : List AV × List Block)
    (hr : ∃ m, goF E (callOf L11) F13 0 m P13_0 (M13_0 c c.length ((i + 1 : Nat) : Int) ap np c) = some R) : ∀ (d j : Nat), j + d = i →
    ∃ m, goF E (callOf L11) F13 0 m P13_1 (M13_1 c c.length i (c.take i) i j ap np c q0 q1 q2 q3 q4 q5 q6) =
      some (if ((c.take i).drop j).any (fun q => (nr q 0 == q0) && (nr q 1 == q1)) = true then ([.one (.int .i64 5)], []) else R)
  | 0, j, hj => by
    have : j = i := by omega
    subst this
    obtain ⟨m, hm⟩ := hr
    refine ⟨m + 1, ?_⟩
    rw [e13_1]
    refine cf (by simp) ?_
    rw [nat_wrap hi hc, hm]
    have : (c.take j).drop j = [] := List.drop_eq_nil_of_le (by simp; omega)
    simp [this]
  | d + 1, j, hj => by
    have hlen : (c.take i).length = i := by simp; omega
    obtain ⟨m, hm⟩ := in13 c ap np hc i hi q0 q1 q2 q3 q4 q5 q6 R hr d (j + 1) (by omega)
    refine ⟨m + 1, ?_⟩
    rw [e13_1]
    refine ct (by simp; omega) (ct (inB_nat' (by omega)) ?_)
    rw [drop_cons (c.take i) j (by omega), List.any_cons, Int.toNat_natCast, nat_wrap (n := i) (by omega) (by omega), hm]
    show cond (nr (Abs.rowAt (c.take i) j) 0 == q0) (cond (nr (Abs.rowAt (c.take i) j) 1 == q1) _ _) _ = _
    generalize (nr (Abs.rowAt (c.take i) j) 0 == q0) = b1
    generalize (nr (Abs.rowAt (c.take i) j) 1 == q1) = b2
    cases b1 <;> cases b2 <;> simp

theorem out13 (c : List (List Cell)) (ap np : Int) (hc : c.length < 4611686018427387904) : ∀ (d i : Nat), i + d = c.length →
    ∃ m, goF E (callOf L11) F13 0 m P13_0 (M13_0 c c.length i ap np c) = some ([.one (.int .i64 (vChs (c.take i) (c.drop i)))], [])
  | 0, i, hi => by
    refine ⟨1, ?_⟩
    rw [e13_0]
    refine cf (by simp; omega) ?_
    have : c.drop i = [] := List.drop_eq_nil_of_le (by omega)
    rw [this, vChs]
  | d + 1, i, hi => by
    have hlen : (c.take i).length = i := by simp; omega
    obtain ⟨m, hm⟩ := in13 c ap np hc i (by omega) (nr (Abs.rowAt c i) 0) (nr (Abs.rowAt c i) 1) (nr (Abs.rowAt c i) 2) (nr (Abs.rowAt c i) 3) (nr (Abs.rowAt c i) 4) (nr (Abs.rowAt c i) 5) (nr (Abs.rowAt c i) 6) _ (out13 c ap np hc d (i + 1) (by omega)) i 0 (by omega)
    refine ⟨m + 1, ?_⟩
    rw [e13_0]
    refine ct (by simp; omega) (ct (inB_nat' (by omega)) ?_)
    rw [drop_cons c i (by omega), vChs, Int.toNat_natCast]
    show cond (vChR (Abs.rowAt c i) != 0) (some ([AV.one (AC.int .i64 (vChR (Abs.rowAt c i)))], ([] : List Block))) _ = _
    by_cases h0 : vChR (Abs.rowAt c i) = 0
    · rw [if_neg (by simpa using h0)]
      refine cf (by simpa using h0) (ct (inB_of (by omega) (by omega)) ?_)
      rw [takeN_eq, hlen]
      refine Eq.trans hm ?_
      rw [take_snoc c i (by omega), List.drop_zero]
      show some (if dup (c.take i) (Abs.rowAt c i) = true then _ else _) = _
      split <;> rfl
    · rw [if_pos h0]
      exact ct (by simpa using h0) rfl

theorem k13 (a n : Int) (c : List (List Cell)) (hc : c.length < 4611686018427387904) : ∃ m, runF E (callOf L11) m 13 [.agg [.int .i64 a, .int .i64 n, .sl false 25 c]] [] = some ([.one (.int .i64 (vProp a n c))], []) := by
  obtain ⟨m, hm⟩ := out13 c a n hc c.length 0 (by omega)
  refine ⟨m + 1, ?_⟩
  rw [e13]
  rw [List.take_zero, List.drop_zero] at hm
  rw [show (0 : Int) = ((0 : Nat) : Int) from rfl, hm]
  repeat' (refine cs (fun _ => ?_) (fun _ => ?_))
  all_goals refine congrArg (fun z => some ([AV.one (AC.int .i64 z)], ([] : List Block))) ?_
  all_goals simp only [bne_iff_ne, beq_iff_eq, beq_eq_false_iff_ne, decide_eq_true_eq, decide_eq_false_iff_not, ne_eq] at *
  all_goals (unfold vProp; (repeat' split) <;> omega)



theorem in14 (c : List (List Cell)) (ap np : Int) (hc : c.length < 4611686018427387904) (i : Nat) (hi : i < c.length) (R : List AV × List Block)
    (hr : ∃ m, goF E (callOf L13) F14 0 m P14_2 (M14_2 ((i + 1 : Nat) : Int) ap np c) = some R) : ∀ (d j : Nat), j + d = i →
    ∃ m, goF E (callOf L13) F14 0 m P14_6 (M14_6 i j ap np c) =
      some (if ((c.take i).drop j).any (sameCh (Abs.rowAt c i)) = true then ([.one (.int .i64 5)], []) else R)
  | 0, j, hj => by
    have : j = i := by omega
    subst this
    obtain ⟨m, hm⟩ := hr
    refine ⟨m + 2, ?_⟩
    rw [e14_6]
    refine cf (by simp) ?_
    rw [e14_8, nat_wrap hi hc, hm]
    have : (c.take j).drop j = [] := List.drop_eq_nil_of_le (by simp; omega)
    simp [this]
  | d + 1, j, hj => by
    have hlen : (c.take i).length = i := by simp; omega
    obtain ⟨m, hm⟩ := in14 c ap np hc i hi R hr d (j + 1) (by omega)
    refine ⟨m + 4, ?_⟩
    rw [e14_6]
    refine ct (by simp; omega) ?_
    rw [e14_7]
    refine ct (inB_nat' (by omega)) (ct (inB_nat' (by omega)) ?_)
    rw [drop_cons (c.take i) j (by omega), List.any_cons, rowAt_take c i j (by omega), Int.toNat_natCast, Int.toNat_natCast]
    have hn : goF E (callOf L13) F14 0 (m + 1) P14_10 (M14_10 i j ap np c) = some (if ((c.take i).drop (j + 1)).any (sameCh (Abs.rowAt c i)) = true then ([.one (.int .i64 5)], []) else R) := by
      rw [e14_10, nat_wrap (n := i) (by omega) (by omega), hm]
    simp only [e14_9, hn]
    unfold sameCh
    show cond (nr (Abs.rowAt c j) 0 == nr (Abs.rowAt c i) 0) (cond _ (cond _ (cond (nr (Abs.rowAt c j) 1 == nr (Abs.rowAt c i) 1) _ _) _) _) _ = _
    rw [inB_nat' (by omega : j < c.length), inB_nat' (by omega : i < c.length)]
    generalize (nr (Abs.rowAt c j) 0 == nr (Abs.rowAt c i) 0) = b1
    generalize (nr (Abs.rowAt c j) 1 == nr (Abs.rowAt c i) 1) = b2
    cases b1 <;> cases b2 <;> simp

theorem out14 (c : List (List Cell)) (ap np : Int) (hc : c.length < 4611686018427387904) : ∀ (d i : Nat), i + d = c.length →
    ∃ m, goF E (callOf L13) F14 0 m P14_2 (M14_2 i ap np c) = some ([.one (.int .i64 (vChs (c.take i) (c.drop i)))], [])
  | 0, i, hi => by
    refine ⟨2, ?_⟩
    rw [e14_2]
    refine cf (by simp; omega) ?_
    have : c.drop i = [] := List.drop_eq_nil_of_le (by omega)
    rw [this, vChs, e14_4]
  | d + 1, i, hi => by
    have hlen : (c.take i).length = i := by simp; omega
    obtain ⟨m, hm⟩ := in14 c ap np hc i (by omega) _ (out14 c ap np hc d (i + 1) (by omega)) i 0 (by omega)
    refine ⟨m + 3, ?_⟩
    rw [e14_2]
    refine ct (by simp; omega) ?_
    rw [e14_3]
    refine ct (inB_nat' (by omega)) ?_
    rw [drop_cons c i (by omega), vChs, Int.toNat_natCast]
    show cond (vChR (Abs.rowAt c i) != 0) (some ([AV.one (AC.int .i64 (vChR (Abs.rowAt c i)))], ([] : List Block))) _ = _
    by_cases h0 : vChR (Abs.rowAt c i) = 0
    · rw [if_neg (by simpa using h0)]
      refine cf (by simpa using h0) ?_
      rw [e14_5]
      refine Eq.trans hm ?_
      rw [take_snoc c i (by omega), List.drop_zero]
      show some (if dup (c.take i) (Abs.rowAt c i) = true then _ else _) = _
      split <;> rfl
    · rw [if_pos h0]
      exact ct (by simpa using h0) rfl

theorem k14 (a n : Int) (c : List (List Cell)) (hc : c.length < 4611686018427387904) : ∃ m, runF E (callOf L13) m 14 [.agg [.int .i64 a, .int .i64 n, .sl false 25 c]] [] = some ([.one (.int .i64 (vProp a n c))], []) := by
  obtain ⟨m, hm⟩ := out14 c a n hc c.length 0 (by omega)
  refine ⟨m + 3, ?_⟩
  rw [e14]
  rw [List.take_zero, List.drop_zero] at hm
  simp only [e14_0, e14_1, show (0 : Int) = ((0 : Nat) : Int) from rfl, hm]
  simp only [isAdmin]
  repeat' (refine cs (fun _ => ?_) (fun _ => ?_))
  all_goals refine congrArg (fun z => some ([AV.one (AC.int .i64 z)], ([] : List Block))) ?_
  all_goals simp only [bne_iff_ne, beq_iff_eq, beq_eq_false_iff_ne, decide_eq_true_eq, decide_eq_false_iff_not, ne_eq, Bool.not_eq_true', Bool.not_eq_false', Bool.and_eq_true, Bool.and_eq_false_iff, Bool.true_eq_false, Bool.false_eq_true] at *
  all_goals (unfold vProp; (repeat' split) <;> omega)

theorem k39 (n : Int) : runF E (callOf L14) 1 39 [.one (.int .i64 n)] [] = some ([.one (.bool false)], []) := by
  rw [e39]; simp

theorem k30 (x y : Int) : runF E (callOf L39) 1 30 [.one (.int .i64 x), .one (.int .i64 y)] [] = some ([.one (.int .i64 (cmpI x y))], []) := by
  rw [e30]
  repeat' (refine cs (fun _ => ?_) (fun _ => ?_))
  all_goals refine congrArg (fun z => some ([AV.one (AC.int .i64 z)], ([] : List Block))) ?_
  all_goals simp only [decide_eq_true_eq, decide_eq_false_iff_not, Bool.true_eq_false, Bool.false_eq_true] at *
  all_goals (unfold cmpI; (repeat' split) <;> omega)

theorem l29 (l : List (List Cell)) (hl : l.length < 4611686018427387904) : ∀ (d i : Nat), i + d = l.length →
    ∃ m, goF E (callOf L30) F29 0 m P29_0 (M29_0 0 l l.length i) = some ([.one (.int .i64 (orI1 (l.drop i)))], [])
  | 0, i, hi => by
    refine ⟨1, ?_⟩
    rw [e29_0]
    refine cf (by simp; omega) ?_
    have : l.drop i = [] := List.drop_eq_nil_of_le (by omega)
    rw [this, orI1]
  | d + 1, i, hi => by
    obtain ⟨m, hm⟩ := l29 l hl d (i + 1) (by omega)
    refine ⟨m + 1, ?_⟩
    rw [e29_0]
    refine ct (by simp; omega) (ct (inB_nat' (by omega)) ?_)
    rw [drop_cons l i (by omega), orI1, Int.toNat_natCast, nat_wrap (n := l.length) (by omega) hl, hm]
    show cond (nr (Abs.rowAt l i) 0 != 0) (some ([AV.one (AC.int .i64 (nr (Abs.rowAt l i) 0))], ([] : List Block))) _ = _
    by_cases h0 : nr (Abs.rowAt l i) 0 = 0
    · rw [if_neg (by simpa using h0)]
      exact cf (by simpa using h0) rfl
    · rw [if_pos h0]
      exact ct (by simpa using h0) rfl

theorem k29 (l : List (List Cell)) (hl : l.length < 4611686018427387904) : ∃ m, runF E (callOf L30) m 29 [.one (.sl false 3 l)] [] = some ([.one (.int .i64 (orI1 l))], []) := by
  obtain ⟨m, hm⟩ := l29 l hl l.length 0 (by omega)
  exact ⟨m + 1, by rw [e29]; exact hm⟩

theorem k15 (a n : Int) (c : List (List Cell)) (b k : Int) (d : List (List Cell)) : runF E (callOf L29) 1 15 [.agg [.int .i64 a, .int .i64 n, .sl false 25 c], .agg [.int .i64 b, .int .i64 k, .sl false 25 d]] [] = some ([.one (.int .i64 (cmpP a n b k))], []) := by
  rw [e15]
  refine ct (by simp) ?_
  refine congrArg (fun z => some ([AV.one (AC.int .i64 z)], ([] : List Block))) ?_
  simp only [orI1, nr, cellAt, Cell.toInt, cmpI, cmpP]
  (repeat' split) <;> omega

theorem k16 (a n : Int) (c : List (List Cell)) (b k : Int) (d : List (List Cell)) : runF E (callOf L15) 1 16 [.agg [.int .i64 a, .int .i64 n, .sl false 25 c], .agg [.int .i64 b, .int .i64 k, .sl false 25 d]] [] = some ([.one (.int .i64 (cmpP a n b k))], []) := by
  rw [e16]
  repeat' (refine cs (fun _ => ?_) (fun _ => ?_))
  all_goals refine congrArg (fun z => some ([AV.one (AC.int .i64 z)], ([] : List Block))) ?_
  all_goals simp only [beq_iff_eq, beq_eq_false_iff_ne, decide_eq_true_eq, decide_eq_false_iff_not, ne_eq] at *
  all_goals (unfold cmpP; (repeat' split) <;> omega)

theorem k31 (k1 s1 w1 v1 rk1 rc1 rf1 k2 s2 w2 v2 rk2 rc2 rf2 : Int) : runF E (callOf L16) 1 31 [.agg [.int .i64 k1, .int .i64 s1, .int .i64 w1, .int .i64 v1, .int .i64 rk1, .int .i64 rc1, .int .i64 rf1], .agg [.int .i64 k2, .int .i64 s2, .int .i64 w2, .int .i64 v2, .int .i64 rk2, .int .i64 rc2, .int .i64 rf2]] [] =
    some ([.one (.bool (eqCh k1 s1 w1 v1 rk1 rc1 rf1 k2 s2 w2 v2 rk2 rc2 rf2))], []) := by
  rw [e31]
  unfold eqCh
  generalize (k1 == k2) = b1
  generalize (s1 == s2) = b2
  generalize (w1 == w2) = b3
  generalize (v1 == v2) = b4
  generalize (rk1 == rk2) = b5
  generalize (rc1 == rc2) = b6
  generalize (rf1 == rf2) = b7
  cases b1 <;> cases b2 <;> cases b3 <;> cases b4 <;> cases b5 <;> cases b6 <;> cases b7 <;> rfl

theorem l17 (c d : List (List Cell)) (b k : Int) (hc : c.length < 4611686018427387904) (hd : c.length = d.length) : ∀ (e i : Nat), i + e = c.length →
    ∃ m, goF E (callOf L31) F17 0 m P17_0 (M17_0 c c.length i b k d) = some ([.one (.bool (eqChs (c.drop i) (d.drop i)))], [])
  | 0, i, hi => by
    refine ⟨1, ?_⟩
    rw [e17_0]
    refine cf (by simp; omega) ?_
    have : c.drop i = [] := List.drop_eq_nil_of_le (by omega)
    rw [this, eqChs]
  | e + 1, i, hi => by
    obtain ⟨m, hm⟩ := l17 c d b k hc hd e (i + 1) (by omega)
    refine ⟨m + 1, ?_⟩
    rw [e17_0]
    refine ct (by simp; omega) (ct (inB_nat' (by omega)) (ct (inB_nat' (by omega)) ?_))
    rw [drop_cons c i (by omega), eqChs, Int.toNat_natCast, nat_wrap (n := c.length) (by omega) hc, hm, rowAt_drop, List.drop_drop, Nat.add_zero]
    show cond (!(eqChR (Abs.rowAt c i) (Abs.rowAt d i))) _ _ = _
    generalize eqChR (Abs.rowAt c i) (Abs.rowAt d i) = b1
    cases b1 <;> rfl

theorem k17 (a n : Int) (c : List (List Cell)) (b k : Int) (d : List (List Cell)) (hc : c.length < 4611686018427387904) : ∃ m, runF E (callOf L31) m 17 [.agg [.int .i64 a, .int .i64 n, .sl false 25 c], .agg [.int .i64 b, .int .i64 k, .sl false 25 d]] [] =
    some ([.one (.bool (eqP a n c b k d))], []) := by
  by_cases hd : c.length = d.length
  · obtain ⟨m, hm⟩ := l17 c d b k hc hd c.length 0 (by omega)
    refine ⟨m + 1, ?_⟩
    rw [e17, show (0 : Int) = ((0 : Nat) : Int) from rfl, hm]
    unfold eqP bne
    rw [List.drop_zero, List.drop_zero]
    generalize (a == b) = b1
    generalize (n == k) = b2
    generalize eqChs c d = b3
    rw [show ((c.length : Int) == (d.length : Int)) = true by simp; omega, decide_eq_true hd]
    cases b1 <;> cases b2 <;> cases b3 <;> rfl
  · refine ⟨1, ?_⟩
    rw [e17]
    unfold eqP bne
    generalize (a == b) = b1
    generalize (n == k) = b2
    rw [show ((c.length : Int) == (d.length : Int)) = false by simp; omega, decide_eq_false hd]
    cases b1 <;> cases b2 <;> rfl

theorem l18 (c d : List (List Cell)) (a n b k : Int) (hc : c.length < 4611686018427387904) (hd : c.length = d.length) : ∀ (e i : Nat), i + e = c.length →
    ∃ m, goF E (callOf L17) F18 0 m P18_0 (M18_0 i a n c b k d) = some ([.one (.bool (eqChs (c.drop i) (d.drop i)))], [])
  | 0, i, hi => by
    refine ⟨1, ?_⟩
    rw [e18_0]
    refine cf (by simp; omega) ?_
    have : c.drop i = [] := List.drop_eq_nil_of_le (by omega)
    rw [this, eqChs]
  | e + 1, i, hi => by
    obtain ⟨m, hm⟩ := l18 c d a n b k hc hd e (i + 1) (by omega)
    refine ⟨m + 1, ?_⟩
    rw [e18_0]
    refine ct (by simp; omega) (ct (inB_nat' (by omega)) (ct (inB_nat' (by omega)) ?_))
    rw [drop_cons c i (by omega), eqChs, Int.toNat_natCast, nat_wrap (n := c.length) (by omega) hc, hm, rowAt_drop, List.drop_drop]
    have hE : (((nr (Abs.rowAt c i) 0) == (nr (Abs.rowAt d i) 0)) && (((nr (Abs.rowAt c i) 1) == (nr (Abs.rowAt d i) 1)) && (((nr (Abs.rowAt c i) 2) == (nr (Abs.rowAt d i) 2)) && (((nr (Abs.rowAt c i) 3) == (nr (Abs.rowAt d i) 3)) && (((nr (Abs.rowAt c i) 4) == (nr (Abs.rowAt d i) 4)) && (((nr (Abs.rowAt c i) 5) == (nr (Abs.rowAt d i) 5)) && (((nr (Abs.rowAt c i) 6) == (nr (Abs.rowAt d i) 6)) && true))))))) = eqChR (Abs.rowAt c i) (Abs.rowAt d i) := by
      simp only [eqChR, eqCh, Bool.and_assoc, Bool.and_true]
    refine Eq.trans (congrArg (fun b => cond (!b) (some ([AV.one (AC.bool false)], ([] : List Block))) _) hE) ?_
    rw [Nat.add_zero]
    generalize eqChR (Abs.rowAt c i) (Abs.rowAt d i) = b1
    cases b1 <;> rfl

theorem k18 (a n : Int) (c : List (List Cell)) (b k : Int) (d : List (List Cell)) (hc : c.length < 4611686018427387904) : ∃ m, runF E (callOf L17) m 18 [.agg [.int .i64 a, .int .i64 n, .sl false 25 c], .agg [.int .i64 b, .int .i64 k, .sl false 25 d]] [] =
    some ([.one (.bool (eqP a n c b k d))], []) := by
  by_cases hd : c.length = d.length
  · obtain ⟨m, hm⟩ := l18 c d a n b k hc hd c.length 0 (by omega)
    refine ⟨m + 1, ?_⟩
    rw [e18, show (0 : Int) = ((0 : Nat) : Int) from rfl, hm]
    unfold eqP bne
    rw [List.drop_zero, List.drop_zero]
    generalize (a == b) = b1
    generalize (n == k) = b2
    generalize eqChs c d = b3
    rw [show ((c.length : Int) == (d.length : Int)) = true by simp; omega, decide_eq_true hd]
    cases b1 <;> cases b2 <;> cases b3 <;> rfl
  · refine ⟨1, ?_⟩
    rw [e18]
    unfold eqP bne
    generalize (a == b) = b1
    generalize (n == k) = b2
    rw [show ((c.length : Int) == (d.length : Int)) = false by simp; omega, decide_eq_false hd]
    cases b1 <;> cases b2 <;> rfl

end Go.Proofs.Ytaafnpmijncpeaa
