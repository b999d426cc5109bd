/-
  The contracts of the functions that validate and compare.
-/
import Derived.Test.YteogaajjkcfeeaaEq1
import Derived.Test.YteogaajjkcfeeaaPureW
namespace Go.Proofs.Yteogaajjkcfeeaa
open Go.Abs

theorem k30 (n : Int) : runF E (callOf L) 1 30 [.one (.int .i64 n)] [] = some ([.one (.bool (isClient n))], []) := by
  rw [e30]; unfold isClient
  generalize decide (n ≥ 101) = b
  cases b <;> rfl

theorem k29 (s : List UInt8) : runF E (callOf L30) 1 29 [.one (.str s)] [] = some ([.one (.bool s.isEmpty)], []) := by kernel_rfl

theorem nil_l {s : List UInt8} : s = [] ↔ s.length = 0 := by
  cases s <;> simp
theorem emp_t {s : List UInt8} : s.isEmpty = true ↔ s.length = 0 := by
  cases s <;> simp
theorem emp_f {s : List UInt8} : s.isEmpty = false ↔ s.length ≠ 0 := by
  cases s <;> simp

theorem vEff_cases (k : Int) (o f : List UInt8) (n : Int) (s : List UInt8) :
    (vEff k o f n s = 10 ∧ (k < 1 ∨ 5 < k)) ∨
    (1 ≤ k ∧ k ≤ 5 ∧ ((vEff k o f n s = 2 ∧ (o.length = 0 ∨ f.length = 0)) ∨
      (o.length ≠ 0 ∧ f.length ≠ 0 ∧ ((vEff k o f n s = 3 ∧ (16 < o.length ∨ 16 < f.length ∨ 32 < s.length)) ∨
        (o.length ≤ 16 ∧ f.length ≤ 16 ∧ s.length ≤ 32 ∧ ((vEff k o f n s = 9 ∧ ((k = 3 ∧ (n < -1000000 ∨ 1000000 < n)) ∨ ((k = 4 ∨ k = 5) ∧ n ≠ 0))) ∨
          (¬ (k = 3 ∧ (n < -1000000 ∨ 1000000 < n)) ∧ ¬ ((k = 4 ∨ k = 5) ∧ n ≠ 0) ∧ ((vEff k o f n s = 2 ∧ (k = 2 ∨ k = 3 ∨ k = 5) ∧ s.length ≠ 0) ∨ (vEff k o f n s = 0 ∧ ¬ ((k = 2 ∨ k = 3 ∨ k = 5) ∧ s.length ≠ 0)))))))))) := by
  unfold vEff
  simp only [nil_l, ne_eq]
  generalize o.length = a
  generalize f.length = b
  generalize s.length = c
  split
  · omega
  · split
    · omega
    · split
      · omega
      · split
        · omega
        · split
          · omega
          · split <;> omega

theorem k11 (k : Int) (o f : List UInt8) (n : Int) (s : List UInt8) : runF E (callOf L29) 1 11 [.agg [.int .i64 k, .str o, .str f, .int .i64 n, .str s]] [] = some ([.one (.int .i64 (vEff k o f n s))], []) := by
  rw [e11]
  have hz := vEff_cases k o f n s
  generalize vEff k o f n s = z at *
  repeat' (refine cs (fun _ => ?_) (fun _ => ?_))
  all_goals refine congrArg (fun z => some ([AV.one (AC.int .i64 z)], ([] : List Block))) ?_
  all_goals simp only [nil_l, emp_t, emp_f, Bool.not_eq_true', Bool.not_eq_false', bne_iff_ne, bne_eq_false_iff_eq, decide_eq_true_eq, beq_iff_eq, beq_eq_false_iff_ne, decide_eq_false_iff_not, ne_eq] at *
  all_goals omega

theorem k12 (k : Int) (o f : List UInt8) (n : Int) (s : List UInt8) : runF E (callOf L11) 1 12 [.agg [.int .i64 k, .str o, .str f, .int .i64 n, .str s]] [] = some ([.one (.int .i64 (vEff k o f n s))], []) := by
  rw [e12]
  have hz := vEff_cases k o f n s
  generalize vEff k o f n s = z at *
  repeat' (refine cs (fun _ => ?_) (fun _ => ?_))
  all_goals refine congrArg (fun z => some ([AV.one (AC.int .i64 z)], ([] : List Block))) ?_
  all_goals simp only [nil_l, emp_t, emp_f, Bool.not_eq_true', Bool.not_eq_false', bne_iff_ne, bne_eq_false_iff_eq, decide_eq_true_eq, beq_iff_eq, beq_eq_false_iff_ne, decide_eq_false_iff_not, ne_eq] at *
  all_goals omega

theorem k32 (k : Int) (o f : List UInt8) (n : Int) (s : List UInt8) : runF E (callOf L12) 1 32 [.agg [.int .i64 k, .str o, .str f, .int .i64 n, .str s]] [] = some ([.one (.bool (k == 1))], []) := by
  rw [e32]

theorem idxWF_range : ∀ (l : List (List Cell)) (i : Int), 0 ≤ i → (0 ≤ idxWF i l ↔ comm l = false)
  | [], i, h => by simp [idxWF, comm]
  | r :: l, i, h => by
    have ih := idxWF_range l (i + 1) (by omega)
    unfold idxWF
    unfold comm at ih ⊢
    rw [List.all_cons]
    by_cases hr : nr r 0 = 1
    · simp [hr, h]
    · rw [if_neg hr, ih]
      simp [hr]

theorem l49 (l : List (List Cell)) (hl : l.length < 4611686018427387904) : ∀ (d i : Nat), i + d = l.length →
    ∃ m, goF E (callOf L32) F49 0 m P49_0 (M49_0 l l.length i) = some ([.one (.int .i64 (idxWF i (l.drop i)))], [])
  | 0, i, hi => by
    refine ⟨1, ?_⟩
    rw [e49_0]
    have : l.drop i = [] := List.drop_eq_nil_of_le (by omega)
    rw [this, idxWF]
    exact cf (decide_eq_false (by omega)) rfl
  | d + 1, i, hi => by
    obtain ⟨m, hm⟩ := l49 l hl d (i + 1) (by omega)
    refine ⟨m + 1, ?_⟩
    rw [e49_0, drop_cons l i (by omega), idxWF, Int.toNat_natCast]
    refine ct (decide_eq_true (by omega)) (ct (inB_nat' (by omega)) ?_)
    by_cases hr : nr (Abs.rowAt l i) 0 = 1
    · rw [if_pos hr]
      exact ct (by simpa using hr) rfl
    · rw [if_neg hr, nat_wrap (n := l.length) (by omega) hl]
      refine cf (by simpa using hr) ?_
      rw [hm]
      rfl

theorem k49 (l : List (List Cell)) (hl : l.length < 4611686018427387904) : ∃ m, runF E (callOf L32) m 49 [.one (.sl false 23 l), .one (.fn 32 [])] [] = some ([.one (.int .i64 (idxW l))], []) := by
  obtain ⟨m, hm⟩ := l49 l hl l.length 0 (by omega)
  exact ⟨m + 1, by rw [e49]; exact hm⟩

theorem k31 (l : List (List Cell)) (hl : l.length < 4611686018427387904) : runF E (callOf L49) 1 31 [.one (.sl false 23 l), .one (.fn 32 [])] [] = some ([.one (.bool (!(comm l)))], []) := by
  rw [e31]
  refine ct (decide_eq_true hl) ?_
  have h := idxWF_range l 0 (by omega)
  refine congrArg (fun z => some ([AV.one (AC.bool z)], ([] : List Block))) ?_
  unfold idxW
  cases hc : comm l
  · rw [hc] at h
    exact decide_eq_true (h.2 rfl)
  · rw [hc] at h
    exact decide_eq_false (fun h0 => by cases h.1 h0)

theorem k16 (c q t : Int) (l : List (List Cell)) (hl : l.length < 4611686018427387904) : runF E (callOf L31) 1 16 [.agg [.int .i64 c, .int .i64 q, .int .i64 t, .sl false 23 l]] [] = some ([.one (.bool (comm l))], []) := by
  rw [e16]
  refine ct (decide_eq_true hl) ?_
  simp

theorem l17 (c q t : Int) (l : List (List Cell)) (hl : l.length < 4611686018427387904) : ∀ (d i : Nat), i + d = l.length →
    ∃ m, goF E (callOf L16) F17 0 m P17_0 (M17_0 i c q t l) = some ([.one (.bool (comm (l.drop i)))], [])
  | 0, i, hi => by
    refine ⟨1, ?_⟩
    rw [e17_0]
    have : l.drop i = [] := List.drop_eq_nil_of_le (by omega)
    rw [this]
    exact cf (decide_eq_false (by omega)) rfl
  | d + 1, i, hi => by
    obtain ⟨m, hm⟩ := l17 c q t l hl d (i + 1) (by omega)
    refine ⟨m + 1, ?_⟩
    rw [e17_0, drop_cons l i (by omega), Int.toNat_natCast, nat_wrap (n := l.length) (by omega) hl, hm]
    refine ct (decide_eq_true (by omega)) (ct (inB_nat' (by omega)) ?_)
    unfold comm
    rw [List.all_cons]
    generalize (nr (Abs.rowAt l i) 0 == 1) = b
    cases b <;> rfl

theorem k17 (c q t : Int) (l : List (List Cell)) (hl : l.length < 4611686018427387904) : ∃ m, runF E (callOf L16) m 17 [.agg [.int .i64 c, .int .i64 q, .int .i64 t, .sl false 23 l]] [] = some ([.one (.bool (comm l))], []) := by
  obtain ⟨m, hm⟩ := l17 c q t l hl l.length 0 (by omega)
  exact ⟨m + 1, by rw [e17]; exact hm⟩

def tailU (t : Int) (l : List (List Cell)) : Int := if (comm l = true ∧ t ≠ 0) ∨ (comm l = false ∧ 1 < l.length) then 2 else 0

theorem l14 (c q t : Int) (l : List (List Cell)) (hl : l.length ≤ 4) : ∀ (d i : Nat), i + d = l.length →
    ∃ m, goF E (callOf L17) F14 0 m P14_0 (M14_0 l l.length i c q t l) = some ([.one (.int .i64 (if vEffs (l.drop i) ≠ 0 then vEffs (l.drop i) else tailU t l))], [])
  | 0, i, hi => by
    refine ⟨1, ?_⟩
    rw [e14_0]
    have : l.drop i = [] := List.drop_eq_nil_of_le (by omega)
    rw [this, vEffs, if_neg (by simp)]
    refine cf (decide_eq_false (by omega)) (ct (decide_eq_true (by omega)) ?_)
    unfold tailU
    cases comm l
    all_goals repeat' (refine cs (fun _ => ?_) (fun _ => ?_))
    all_goals refine congrArg (fun z => some ([AV.one (AC.int .i64 z)], ([] : List Block))) ?_
    all_goals simp only [bne_iff_ne, bne_eq_false_iff_eq, decide_eq_true_eq, decide_eq_false_iff_not, Bool.not_true, Bool.not_false, Bool.true_eq_false, Bool.false_eq_true, false_and, true_and, or_false, false_or] at *
    all_goals ((repeat' split) <;> omega)
  | d + 1, i, hi => by
    obtain ⟨m, hm⟩ := l14 c q t l hl d (i + 1) (by omega)
    refine ⟨m + 1, ?_⟩
    rw [e14_0, drop_cons l i (by omega), vEffs, Int.toNat_natCast, nat_wrap (n := l.length) (by omega) (by omega), hm]
    refine ct (decide_eq_true (by omega)) (ct (inB_nat' (by omega)) ?_)
    show cond (vEffR (Abs.rowAt l i) != 0) (some ([AV.one (AC.int .i64 (vEffR (Abs.rowAt l i)))], ([] : List Block))) _ = _
    by_cases h0 : vEffR (Abs.rowAt l i) = 0
    · rw [if_neg (show ¬ vEffR (Abs.rowAt l i) ≠ 0 by simpa using h0)]
      exact cf (by simpa using h0) rfl
    · simp only [if_pos h0]
      exact ct (by simpa using h0) (by simp [h0])

theorem k14 (c q t : Int) (l : List (List Cell)) : ∃ m, runF E (callOf L17) m 14 [.agg [.int .i64 c, .int .i64 q, .int .i64 t, .sl false 23 l]] [] = some ([.one (.int .i64 (vUpd c q t l))], []) := by
  by_cases hl : l.length ≤ 4
  · obtain ⟨m, hm⟩ := l14 c q t l hl l.length 0 (by omega)
    refine ⟨m + 1, ?_⟩
    rw [e14, show (0 : Int) = ((0 : Nat) : Int) from rfl, hm, List.drop_zero]
    unfold tailU
    repeat' (refine cs (fun _ => ?_) (fun _ => ?_))
    all_goals refine congrArg (fun z => some ([AV.one (AC.int .i64 z)], ([] : List Block))) ?_
    all_goals simp only [beq_iff_eq, beq_eq_false_iff_ne, decide_eq_true_eq, decide_eq_false_iff_not, ne_eq] at *
    all_goals (unfold vUpd; (repeat' split) <;> first | rfl | omega)
  · refine ⟨1, ?_⟩
    rw [e14]
    repeat' (refine cs (fun _ => ?_) (fun _ => ?_))
    all_goals simp only [beq_iff_eq, beq_eq_false_iff_ne, decide_eq_true_eq, decide_eq_false_iff_not, ne_eq] at *
    all_goals first | (exfalso; omega) | (refine congrArg (fun z => some ([AV.one (AC.int .i64 z)], ([] : List Block))) ?_; unfold vUpd; (repeat' split) <;> first | rfl | omega)

theorem l15 (c q t : Int) (l : List (List Cell)) (hl : l.length ≤ 4) : ∀ (d i : Nat), i + d = l.length →
    ∃ m, goF E (callOf L14) F15 0 m P15_0 (M15_0 i c q t l) = some ([.one (.int .i64 (if vEffs (l.drop i) ≠ 0 then vEffs (l.drop i) else tailU t l))], [])
  | 0, i, hi => by
    refine ⟨1, ?_⟩
    rw [e15_0]
    have : l.drop i = [] := List.drop_eq_nil_of_le (by omega)
    rw [this, vEffs, if_neg (by simp)]
    refine cf (decide_eq_false (by omega)) (ct (decide_eq_true (by omega)) ?_)
    unfold tailU
    rw [decide_eq_true (show l.length < 4611686018427387904 by omega)]
    cases comm l
    all_goals repeat' (refine cs (fun _ => ?_) (fun _ => ?_))
    all_goals simp only [bne_iff_ne, bne_eq_false_iff_eq, decide_eq_true_eq, decide_eq_false_iff_not, Bool.not_true, Bool.not_false, Bool.true_eq_false, Bool.false_eq_true, false_and, true_and, or_false, false_or] at *
    all_goals refine congrArg (fun z => some ([AV.one (AC.int .i64 z)], ([] : List Block))) ?_
    all_goals ((repeat' split) <;> omega)
  | d + 1, i, hi => by
    obtain ⟨m, hm⟩ := l15 c q t l hl d (i + 1) (by omega)
    refine ⟨m + 1, ?_⟩
    rw [e15_0, drop_cons l i (by omega), vEffs, Int.toNat_natCast, nat_wrap (n := l.length) (by omega) (by omega), hm]
    refine ct (decide_eq_true (by omega)) (ct (inB_nat' (by omega)) ?_)
    show cond (vEffR (Abs.rowAt l i) != 0) (some ([AV.one (AC.int .i64 (vEffR (Abs.rowAt l i)))], ([] : List Block))) _ = _
    by_cases h0 : vEffR (Abs.rowAt l i) = 0
    · rw [if_neg (show ¬ vEffR (Abs.rowAt l i) ≠ 0 by simpa using h0)]
      exact cf (by simpa using h0) rfl
    · simp only [if_pos h0]
      exact ct (by simpa using h0) (by simp [h0])

theorem k15 (c q t : Int) (l : List (List Cell)) : ∃ m, runF E (callOf L14) m 15 [.agg [.int .i64 c, .int .i64 q, .int .i64 t, .sl false 23 l]] [] = some ([.one (.int .i64 (vUpd c q t l))], []) := by
  by_cases hl : l.length ≤ 4
  · obtain ⟨m, hm⟩ := l15 c q t l hl l.length 0 (by omega)
    refine ⟨m + 1, ?_⟩
    rw [e15, show (0 : Int) = ((0 : Nat) : Int) from rfl, hm, List.drop_zero]
    unfold tailU
    simp only [isClient]
    repeat' (refine cs (fun _ => ?_) (fun _ => ?_))
    all_goals refine congrArg (fun z => some ([AV.one (AC.int .i64 z)], ([] : List Block))) ?_
    all_goals simp only [Bool.not_eq_true', Bool.not_eq_false', Bool.and_eq_true, Bool.and_eq_false_iff, beq_iff_eq, beq_eq_false_iff_ne, decide_eq_true_eq, decide_eq_false_iff_not, ne_eq] at *
    all_goals (unfold vUpd; (repeat' split) <;> first | rfl | omega)
  · refine ⟨1, ?_⟩
    rw [e15]
    simp only [isClient]
    repeat' (refine cs (fun _ => ?_) (fun _ => ?_))
    all_goals simp only [Bool.not_eq_true', Bool.not_eq_false', Bool.and_eq_true, Bool.and_eq_false_iff, beq_iff_eq, beq_eq_false_iff_ne, decide_eq_true_eq, decide_eq_false_iff_not, ne_eq] at *
    all_goals first | (exfalso; omega) | (refine congrArg (fun z => some ([AV.one (AC.int .i64 z)], ([] : List Block))) ?_; unfold vUpd; (repeat' split) <;> first | rfl | omega)

theorem k18 (a n t : Int) (c : List (List Cell)) (b k u : Int) (d : List (List Cell)) : runF E (callOf L33) 1 18 [.agg [.int .i64 a, .int .i64 n, .int .i64 t, .sl false 23 c], .agg [.int .i64 b, .int .i64 k, .int .i64 u, .sl false 23 d]] [] = some ([.one (.int .i64 (cmpU a n b k))], []) := by
  rw [e18]
  refine ct (by simp) ?_
  refine congrArg (fun z => some ([AV.one (AC.int .i64 z)], ([] : List Block))) ?_
  simp only [orI1, nr, cellAt, Cell.toInt, cmpI, cmpU]
  (repeat' split) <;> omega

theorem k19 (a n t : Int) (c : List (List Cell)) (b k u : Int) (d : List (List Cell)) : runF E (callOf L18) 1 19 [.agg [.int .i64 a, .int .i64 n, .int .i64 t, .sl false 23 c], .agg [.int .i64 b, .int .i64 k, .int .i64 u, .sl false 23 d]] [] = some ([.one (.int .i64 (cmpU a n b k))], []) := by
  rw [e19]
  repeat' (refine cs (fun _ => ?_) (fun _ => ?_))
  all_goals refine congrArg (fun z => some ([AV.one (AC.int .i64 z)], ([] : List Block))) ?_
  all_goals simp only [beq_iff_eq, beq_eq_false_iff_ne, decide_eq_true_eq, decide_eq_false_iff_not, ne_eq] at *
  all_goals (unfold cmpU; (repeat' split) <;> omega)

theorem k20 (a n t : Int) (c : List (List Cell)) (b k u : Int) (d : List (List Cell)) : runF E (callOf L19) 1 20 [.agg [.int .i64 a, .int .i64 n, .int .i64 t, .sl false 23 c], .agg [.int .i64 b, .int .i64 k, .int .i64 u, .sl false 23 d]] [] = some ([.one (.bool (befU t a n u b k))], []) := by
  rw [e20]
  refine ct (by simp) ?_
  refine congrArg (fun z => some ([AV.one (AC.bool z)], ([] : List Block))) ?_
  unfold befU
  rw [← Bool.decide_and, ← Bool.decide_or]
  refine decide_eq_decide.2 ?_
  simp only [orI1, nr, cellAt, Cell.toInt, cmpI]
  generalize cmpU a n b k = z
  (repeat' split) <;> omega

theorem k21 (a n t : Int) (c : List (List Cell)) (b k u : Int) (d : List (List Cell)) : runF E (callOf L20) 1 21 [.agg [.int .i64 a, .int .i64 n, .int .i64 t, .sl false 23 c], .agg [.int .i64 b, .int .i64 k, .int .i64 u, .sl false 23 d]] [] = some ([.one (.bool (befU t a n u b k))], []) := by
  rw [e21]
  unfold befU
  rw [show (t == u) = decide (t = u) from rfl]
  generalize decide (t < u) = b1
  generalize decide (t = u) = b2
  generalize decide (cmpU a n b k < 0) = b3
  cases b1 <;> cases b2 <;> cases b3 <;> rfl

theorem l35 (c d : List (List Cell)) (hc : c.length < 4611686018427387904) (hd : c.length = d.length) : ∀ (e i : Nat), i + e = c.length →
    ∃ m, goF E (callOf L21) F35 0 m P35_0 (M35_0 c d c.length i) = some ([.one (.bool (eqEffF (c.drop i) (d.drop i)))], [])
  | 0, i, hi => by
    refine ⟨1, ?_⟩
    rw [e35_0]
    have : c.drop i = [] := List.drop_eq_nil_of_le (by omega)
    rw [this, eqEffF]
    exact cf (decide_eq_false (by omega)) rfl
  | e + 1, i, hi => by
    obtain ⟨m, hm⟩ := l35 c d hc hd e (i + 1) (by omega)
    refine ⟨m + 1, ?_⟩
    rw [e35_0]
    refine ct (decide_eq_true (by omega)) (ct (inB_nat' (by omega)) (ct (inB_nat' (by omega)) ?_))
    rw [drop_cons c i (by omega), eqEffF, Int.toNat_natCast, nat_wrap (n := c.length) (by omega) hc, hm, rowAt_drop, List.drop_drop, Nat.add_zero]
    show cond (!(eqEffR (Abs.rowAt c i) (Abs.rowAt d i))) _ _ = _
    generalize eqEffR (Abs.rowAt c i) (Abs.rowAt d i) = b1
    cases b1 <;> rfl

theorem k35 (c d : List (List Cell)) (hc : c.length < 4611686018427387904) : ∃ m, runF E (callOf L21) m 35 [.one (.sl false 23 c), .one (.sl false 23 d)] [] = some ([.one (.bool (eqEffs c d))], []) := by
  unfold eqEffs
  by_cases hd : c.length = d.length
  · obtain ⟨m, hm⟩ := l35 c d hc hd c.length 0 (by omega)
    refine ⟨m + 1, ?_⟩
    rw [e35, show (0 : Int) = ((0 : Nat) : Int) from rfl, hm, decide_eq_true hd]
    exact cf (bne_eq_false_iff_eq.2 (by omega)) rfl
  · refine ⟨1, ?_⟩
    rw [e35, decide_eq_false hd]
    exact ct (bne_iff_ne.2 (by omega)) rfl

theorem k22 (a n t : Int) (c : List (List Cell)) (b k u : Int) (d : List (List Cell)) (hc : c.length < 4611686018427387904) : runF E (callOf L35) 1 22 [.agg [.int .i64 a, .int .i64 n, .int .i64 t, .sl false 23 c], .agg [.int .i64 b, .int .i64 k, .int .i64 u, .sl false 23 d]] [] = some ([.one (.bool (eqU a n t c b k u d))], []) := by
  rw [e22]
  unfold eqU
  rw [decide_eq_true hc]
  generalize (a == b) = b1
  generalize (n == k) = b2
  generalize (t == u) = b3
  cases b1 <;> cases b2 <;> cases b3 <;> rfl

theorem l23 (c d : List (List Cell)) (a n t b k u : Int) (hc : c.length < 4611686018427387904) (hd : c.length = d.length) : ∀ (e i : Nat), i + e = c.length →
    ∃ m, goF E (callOf L22) F23 0 m P23_0 (M23_0 i a n t c b k u d) = some ([.one (.bool (eqEffF (c.drop i) (d.drop i)))], [])
  | 0, i, hi => by
    refine ⟨1, ?_⟩
    rw [e23_0]
    have : c.drop i = [] := List.drop_eq_nil_of_le (by omega)
    rw [this, eqEffF]
    exact cf (decide_eq_false (by omega)) rfl
  | e + 1, i, hi => by
    obtain ⟨m, hm⟩ := l23 c d a n t b k u hc hd e (i + 1) (by omega)
    refine ⟨m + 1, ?_⟩
    rw [e23_0]
    refine ct (decide_eq_true (by omega)) (ct (inB_nat' (by omega)) (ct (inB_nat' (by omega)) ?_))
    rw [drop_cons c i (by omega), eqEffF, Int.toNat_natCast, nat_wrap (n := c.length) (by omega) hc, hm, rowAt_drop, List.drop_drop, Nat.add_zero]
    show cond (!(eqEffR (Abs.rowAt c i) (Abs.rowAt d i))) _ _ = _
    generalize eqEffR (Abs.rowAt c i) (Abs.rowAt d i) = b1
    cases b1 <;> rfl

theorem k23 (a n t : Int) (c : List (List Cell)) (b k u : Int) (d : List (List Cell)) (hc : c.length < 4611686018427387904) : ∃ m, runF E (callOf L22) m 23 [.agg [.int .i64 a, .int .i64 n, .int .i64 t, .sl false 23 c], .agg [.int .i64 b, .int .i64 k, .int .i64 u, .sl false 23 d]] [] = some ([.one (.bool (eqU a n t c b k u d))], []) := by
  unfold eqU eqEffs
  by_cases hd : c.length = d.length
  · obtain ⟨m, hm⟩ := l23 c d a n t b k u hc hd c.length 0 (by omega)
    refine ⟨m + 1, ?_⟩
    rw [e23, show (0 : Int) = ((0 : Nat) : Int) from rfl, hm, decide_eq_true hd, List.drop_zero, List.drop_zero]
    unfold bne
    rw [show ((c.length : Int) == (d.length : Int)) = true from beq_iff_eq.2 (by omega)]
    generalize (a == b) = b1
    generalize (n == k) = b2
    generalize (t == u) = b3
    cases b1 <;> cases b2 <;> cases b3 <;> rfl
  · refine ⟨1, ?_⟩
    rw [e23, decide_eq_false hd]
    unfold bne
    rw [show ((c.length : Int) == (d.length : Int)) = false from beq_eq_false_iff_ne.2 (by omega)]
    generalize (a == b) = b1
    generalize (n == k) = b2
    generalize (t == u) = b3
    cases b1 <;> cases b2 <;> cases b3 <;> rfl

theorem k13 (c q t : Int) (l : List (List Cell)) : runF E (callOf L23) 1 13 [.agg [.int .i64 c, .int .i64 q, .int .i64 t, .sl false 23 l]] [] = some ([.one (.bool (decide (l.length ≤ 60)))], []) := by
  rw [e13]
  refine congrArg (fun z => some ([AV.one (AC.bool z)], ([] : List Block))) ?_
  exact decide_eq_decide.2 (by omega)

end Go.Proofs.Yteogaajjkcfeeaa
