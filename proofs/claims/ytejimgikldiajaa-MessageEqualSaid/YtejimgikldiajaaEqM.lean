/-
  Equality of messages: the contracts of this seat's own functions, and the law.
-/
import Derived.Test.YtejimgikldiajaaPureM
import Derived.Test.YtejimgikldiajaaKeyedV
namespace Go.Proofs.Ytejimgikldiajaa
open Go.Abs

theorem k16 (f1 t1 f2 t2 : List (List Cell)) (h : (okRows f1 && okRows t1) = true) : runF E (callOf L18) 1 16 [.agg [.sl false 74 f1, .sl false 74 t1], .agg [.sl false 74 f2, .sl false 74 t2]] [] = some ([.one (.bool (eqCfg f1 f2 && eqCfg t1 t2))], []) := by
  simp only [Bool.and_eq_true] at h
  rw [e16, h.1, h.2]
  cases eqCfg f1 f2 <;> rfl

theorem l32 (c d : List (List Cell)) (hc : c.length < 9223372036854775808) (hd : c.length = d.length) : ∀ (e i : Nat), i + e = c.length →
    ∃ m, goF E (callOf L16) F32 0 m P32_0 (M32_0 c d c.length i) = some ([.one (.bool (eqChs (c.drop i) (d.drop i)))], [])
  | 0, i, hi => by
    refine ⟨1, ?_⟩
    rw [e32_0]
    refine cf (decide_eq_false (by omega)) ?_
    have : c.drop i = [] := List.drop_eq_nil_of_le (by omega)
    rw [this, eqChs]
  | e + 1, i, hi => by
    obtain ⟨m, hm⟩ := l32 c d hc hd e (i + 1) (by omega)
    refine ⟨m + 1, ?_⟩
    rw [e32_0]
    refine ct (decide_eq_true (by omega)) (ct (inB_nat' (by omega)) (ct (inB_nat' (by omega)) ?_))
    rw [drop_cons c i (by omega), eqChs, Int.toNat_natCast, nat_wrap (n := c.length) (by omega) hc, hm, rowAt_drop, List.drop_drop]
    have hE : (((nr (Abs.rowAt c i) 0) == (nr (Abs.rowAt d i) 0)) && (((nr (Abs.rowAt c i) 1) == (nr (Abs.rowAt d i) 1)) && (((nr (Abs.rowAt c i) 2) == (nr (Abs.rowAt d i) 2)) && (((nr (Abs.rowAt c i) 3) == (nr (Abs.rowAt d i) 3)) && (((nr (Abs.rowAt c i) 4) == (nr (Abs.rowAt d i) 4)) && (((nr (Abs.rowAt c i) 5) == (nr (Abs.rowAt d i) 5)) && (((nr (Abs.rowAt c i) 6) == (nr (Abs.rowAt d i) 6)) && true))))))) = eqChR (Abs.rowAt c i) (Abs.rowAt d i) := by
      simp only [eqChR, eqCh, Bool.and_assoc, Bool.and_true]
    refine Eq.trans (congrArg (fun b => cond (!b) (some ([AV.one (AC.bool false)], ([] : List Block))) _) hE) ?_
    rw [Nat.add_zero]
    generalize eqChR (Abs.rowAt c i) (Abs.rowAt d i) = b1
    cases b1 <;> rfl

theorem k32 (x y : List (List Cell)) (h : x.length < 9223372036854775808) : ∃ m, runF E (callOf L16) m 32 [.one (.sl false 79 x), .one (.sl false 79 y)] [] = some ([.one (.bool (decide (x.length = y.length) && eqChs x y))], []) := by
  by_cases hd : x.length = y.length
  · obtain ⟨m, hm⟩ := l32 x y h hd x.length 0 (by omega)
    refine ⟨m + 1, ?_⟩
    rw [e32, decide_eq_true hd, Bool.true_and]
    exact cf (bne_eq_false_iff_eq.2 (by omega)) hm
  · refine ⟨1, ?_⟩
    rw [e32, decide_eq_false hd]
    exact ct (bne_iff_ne.2 (by omega)) rfl

theorem k31 (a n : Int) (c : List (List Cell)) (b k : Int) (d : List (List Cell)) (h : c.length < 9223372036854775808) : runF E (callOf L32) 1 31 [.agg [.int .i64 a, .int .i64 n, .sl false 79 c], .agg [.int .i64 b, .int .i64 k, .sl false 79 d]] [] = some ([.one (.bool (eqP a n c b k d))], []) := by
  rw [e31, decide_eq_true h]
  unfold eqP
  cases (a == b) <;> cases (n == k) <;> cases (decide (c.length = d.length)) <;> rfl

theorem l30 (c d : List (List Cell)) (hc : c.length ≤ 1000) (hs : shortRows c = true) (hd : c.length = d.length) : ∀ (e i : Nat), i + e = c.length →
    ∃ m, goF E (callOf L31) F30 0 m P30_0 (M30_0 d c c.length i) = some ([.one (.bool (eqCfgF (c.drop i) (d.drop i)))], [])
  | 0, i, hi => by
    refine ⟨1, ?_⟩
    rw [e30_0]
    have : c.drop i = [] := List.drop_eq_nil_of_le (by omega)
    rw [this, eqCfgF]
    exact cf (decide_eq_false (by omega)) rfl
  | e + 1, i, hi => by
    have hi' : i < c.length := by omega
    obtain ⟨m, hm⟩ := l30 c d hc hs hd e (i + 1) (by omega)
    refine ⟨m + 1, ?_⟩
    rw [e30_0]
    rw [drop_cons c i hi', eqCfgF, Int.toNat_natCast, nat_wrap (n := c.length) hi' (by omega), hm, rowAt_drop, List.drop_drop, Nat.add_zero]
    refine ct (decide_eq_true (by omega)) (ct (inB_nat' hi') (ct (inB_nat' (by omega)) (ct (decide_eq_true (short_at hs hi')) ?_)))
    show cond (!(eqPR (Abs.rowAt c i) (Abs.rowAt d i))) _ _ = _
    generalize eqPR (Abs.rowAt c i) (Abs.rowAt d i) = b1
    cases b1 <;> rfl

theorem k30 (c d : List (List Cell)) (h : okRows c = true) : ∃ m, runF E (callOf L31) m 30 [.one (.sl false 74 c), .one (.sl false 74 d), .one (.fn 31 [])] [] = some ([.one (.bool (eqCfg c d))], []) := by
  obtain ⟨h1, h2⟩ := okRows_of h
  unfold eqCfg
  by_cases hd : c.length = d.length
  · obtain ⟨m, hm⟩ := l30 c d h1 h2 hd c.length 0 (by omega)
    refine ⟨m + 1, ?_⟩
    rw [e30, decide_eq_true hd, Bool.true_and]
    exact cf (bne_eq_false_iff_eq.2 (by omega)) hm
  · refine ⟨1, ?_⟩
    rw [e30, decide_eq_false hd]
    exact ct (bne_iff_ne.2 (by omega)) rfl

theorem k12 (c d : List (List Cell)) (h : okRows c = true) : runF E (callOf L30) 1 12 [.one (.sl false 74 c), .one (.sl false 74 d)] [] = some ([.one (.bool (eqCfg c d))], []) := by
  rw [e12]
  exact ct h rfl

theorem k11 (f1 t1 f2 t2 : List (List Cell)) (h : (okRows f1 && okRows t1) = true) : runF E (callOf L12) 1 11 [.agg [.sl false 74 f1, .sl false 74 t1], .agg [.sl false 74 f2, .sl false 74 t2]] [] = some ([.one (.bool (eqCfg f1 f2 && eqCfg t1 t2))], []) := by
  simp only [Bool.and_eq_true] at h
  rw [e11, h.1, h.2]
  cases eqCfg f1 f2 <;> rfl

theorem l13 (c d : List (List Cell)) (hc : c.length ≤ 1000) (hs : shortRowsU c = true) (hd : c.length = d.length) : ∀ (e i : Nat), i + e = c.length →
    ∃ m, goF E (callOf L11) F13 0 m P13_0 (M13_0 d c c.length i) = some ([.one (.bool (eqStF (c.drop i) (d.drop i)))], [])
  | 0, i, hi => by
    refine ⟨1, ?_⟩
    rw [e13_0]
    have : c.drop i = [] := List.drop_eq_nil_of_le (by omega)
    rw [this, eqStF]
    exact cf (decide_eq_false (by omega)) rfl
  | e + 1, i, hi => by
    have hi' : i < c.length := by omega
    obtain ⟨m, hm⟩ := l13 c d hc hs hd e (i + 1) (by omega)
    refine ⟨m + 1, ?_⟩
    rw [e13_0]
    rw [drop_cons c i hi', eqStF, Int.toNat_natCast, nat_wrap (n := c.length) hi' (by omega), hm, rowAt_drop, List.drop_drop, Nat.add_zero]
    refine ct (decide_eq_true (by omega)) (ct (inB_nat' hi') (ct (inB_nat' (by omega)) (ct (decide_eq_true (short_atU hs hi')) ?_)))
    show cond (!(eqUR (Abs.rowAt c i) (Abs.rowAt d i))) _ _ = _
    generalize eqUR (Abs.rowAt c i) (Abs.rowAt d i) = b1
    cases b1 <;> rfl

theorem k13 (c d : List (List Cell)) (h : okRowsU c = true) : ∃ m, runF E (callOf L11) m 13 [.one (.sl false 48 c), .one (.sl false 48 d), .one (.fn 14 [])] [] = some ([.one (.bool (eqSt c d))], []) := by
  obtain ⟨h1, h2⟩ := okRows_ofU h
  unfold eqSt
  by_cases hd : c.length = d.length
  · obtain ⟨m, hm⟩ := l13 c d h1 h2 hd c.length 0 (by omega)
    refine ⟨m + 1, ?_⟩
    rw [e13, decide_eq_true hd, Bool.true_and]
    exact cf (bne_eq_false_iff_eq.2 (by omega)) hm
  · refine ⟨1, ?_⟩
    rw [e13, decide_eq_false hd]
    exact ct (bne_iff_ne.2 (by omega)) rfl

theorem l15 (v w : List (List Cell)) (hv : v.length ≤ 1000) (hl : v.length = w.length) : ∀ (d i : Nat), i + d = v.length →
    ∃ m, goF E (callOf L13) F15 0 m P15_0 (M15_0 v w v.length i) = some ([.one (.bool (eqVF (v.drop i) (w.drop i)))], [])
  | 0, i, hi => by
    refine ⟨1, ?_⟩
    have : v.drop i = [] := List.drop_eq_nil_of_le (by omega)
    rw [e15_0, this]
    exact cf (decide_eq_false (by omega)) rfl
  | d + 1, i, hi => by
    have hi' : i < v.length := by omega
    obtain ⟨m, hm⟩ := l15 v w hv hl d (i + 1) (by omega)
    refine ⟨m + 1, ?_⟩
    rw [e15_0, Int.toNat_natCast, drop_cons v i hi', eqVF, nat_wrap (n := v.length) hi' (by omega), hm, rowAt_drop, List.drop_drop, Nat.add_zero]
    refine ct (decide_eq_true (by omega)) (ct (inB_nat' hi') (ct (inB_nat' (by omega)) ?_))
    have q1 : ((nr (Abs.rowAt v i) 0) == (nr (Abs.rowAt w i) 0)) = decide (nr (Abs.rowAt v i) 0 = nr (Abs.rowAt w i) 0) := by rw [Bool.eq_iff_iff, beq_iff_eq, decide_eq_true_eq]
    have q2 : ((nr (Abs.rowAt v i) 1) == (nr (Abs.rowAt w i) 1)) = decide (nr (Abs.rowAt v i) 1 = nr (Abs.rowAt w i) 1) := by rw [Bool.eq_iff_iff, beq_iff_eq, decide_eq_true_eq]
    rw [q1, q2, Bool.and_true]
    cases (decide (nr (Abs.rowAt v i) 0 = nr (Abs.rowAt w i) 0) && decide (nr (Abs.rowAt v i) 1 = nr (Abs.rowAt w i) 1)) <;> rfl

theorem k15 (v w : List (List Cell)) (h : okLn v = true) : ∃ m, runF E (callOf L13) m 15 [.one (.sl false 52 v), .one (.sl false 52 w)] [] = some ([.one (.bool (eqVec v w))], []) := by
  unfold eqVec
  by_cases hl : v.length = w.length
  · obtain ⟨m, hm⟩ := l15 v w (okLn_of h) hl v.length 0 (by omega)
    refine ⟨m + 1, ?_⟩
    rw [e15, decide_eq_true hl, Bool.true_and]
    exact cf (bne_eq_false_iff_eq.2 (by omega)) hm
  · refine ⟨1, ?_⟩
    rw [e15, decide_eq_false hl]
    exact ct (bne_iff_ne.2 (by omega)) rfl

theorem okM_of {cf ct bf bt ef et g u v : List (List Cell)} (h : okM cf ct bf bt ef et g u v = true) :
    okRows cf = true ∧ okRows ct = true ∧ okRows bf = true ∧ okRows bt = true ∧ okRows ef = true ∧ okRows et = true ∧ okRows g = true ∧ okRowsU u = true ∧ okLn v = true := by
  unfold okM at h
  simp only [Bool.and_eq_true] at h
  obtain ⟨⟨h1, h2⟩, ⟨h3, h4⟩, ⟨h5, h6⟩, h7, h8, h9⟩ := h
  exact ⟨h1, h2, h3, h4, h5, h6, h7, h8, h9⟩

theorem k6 (k1 : Int) (f1 : Int) (t1 : Int) (p1 : Int) (n1 : Int) (r1 : Int) (o1 : Int) (cf1 : List (List Cell)) (ct1 : List (List Cell)) (bf1 : List (List Cell)) (bt1 : List (List Cell)) (h1 : Bool) (ef1 : List (List Cell)) (et1 : List (List Cell)) (g1 : List (List Cell)) (u1 : List (List Cell)) (v1 : List (List Cell)) (m1 : Bool) (k2 : Int) (f2 : Int) (t2 : Int) (p2 : Int) (n2 : Int) (r2 : Int) (o2 : Int) (cf2 : List (List Cell)) (ct2 : List (List Cell)) (bf2 : List (List Cell)) (bt2 : List (List Cell)) (h2 : Bool) (ef2 : List (List Cell)) (et2 : List (List Cell)) (g2 : List (List Cell)) (u2 : List (List Cell)) (v2 : List (List Cell)) (m2 : Bool) (hg : okM cf1 ct1 bf1 bt1 ef1 et1 g1 u1 v1 = true) : runF E (callOf L15) 1 6 [.agg [.int .i64 k1, .int .i64 f1, .int .i64 t1, .int .i64 p1, .int .i64 n1, .int .i64 r1, .int .i64 o1, .sl false 74 cf1, .sl false 74 ct1, .sl false 74 bf1, .sl false 74 bt1, .bool h1, .sl false 74 ef1, .sl false 74 et1, .sl false 74 g1, .sl false 48 u1, .sl false 52 v1, .bool m1], .agg [.int .i64 k2, .int .i64 f2, .int .i64 t2, .int .i64 p2, .int .i64 n2, .int .i64 r2, .int .i64 o2, .sl false 74 cf2, .sl false 74 ct2, .sl false 74 bf2, .sl false 74 bt2, .bool h2, .sl false 74 ef2, .sl false 74 et2, .sl false 74 g2, .sl false 48 u2, .sl false 52 v2, .bool m2]] [] = some ([.one (.bool (eqM k1 f1 t1 p1 n1 r1 o1 cf1 ct1 bf1 bt1 h1 ef1 et1 g1 u1 v1 m1 k2 f2 t2 p2 n2 r2 o2 cf2 ct2 bf2 bt2 h2 ef2 et2 g2 u2 v2 m2))], []) := by
  obtain ⟨g1', g2', g3, g4, g5, g6, g7, g8, g9⟩ := okM_of hg
  rw [e6, g1', g2', g3, g4, g5, g6, g7, g8, g9]
  unfold eqM
  simp only [bne, Bool.and_true]
  generalize (k1 == k2) = b1
  generalize (f1 == f2) = b2
  generalize (t1 == t2) = b3
  generalize (p1 == p2) = b4
  generalize (n1 == n2) = b5
  generalize (r1 == r2) = b6
  generalize (o1 == o2) = b7
  generalize (h1 == h2) = b8
  generalize (m1 == m2) = b9
  generalize (eqCfg cf1 cf2 && eqCfg ct1 ct2) = b10
  generalize (eqCfg bf1 bf2 && eqCfg bt1 bt2) = b11
  generalize (eqCfg ef1 ef2 && eqCfg et1 et2) = b12
  generalize eqCfg g1 g2 = b13
  generalize eqSt u1 u2 = b14
  generalize eqVec v1 v2 = b15
  clear hg g1' g2' g3 g4 g5 g6 g7 g8 g9
  cases b1 <;> cases b2 <;> cases b3 <;> cases b4 <;> cases b5 <;> (try rfl) <;> cases b6 <;> cases b7 <;> (try rfl) <;> cases b8 <;> cases b9 <;> (try rfl) <;> cases b10 <;> cases b11 <;> (try rfl) <;> cases b12 <;> cases b13 <;> (try rfl) <;> cases b14 <;> rfl

theorem k7 (k1 : Int) (f1 : Int) (t1 : Int) (p1 : Int) (n1 : Int) (r1 : Int) (o1 : Int) (cf1 : List (List Cell)) (ct1 : List (List Cell)) (bf1 : List (List Cell)) (bt1 : List (List Cell)) (h1 : Bool) (ef1 : List (List Cell)) (et1 : List (List Cell)) (g1 : List (List Cell)) (u1 : List (List Cell)) (v1 : List (List Cell)) (m1 : Bool) (k2 : Int) (f2 : Int) (t2 : Int) (p2 : Int) (n2 : Int) (r2 : Int) (o2 : Int) (cf2 : List (List Cell)) (ct2 : List (List Cell)) (bf2 : List (List Cell)) (bt2 : List (List Cell)) (h2 : Bool) (ef2 : List (List Cell)) (et2 : List (List Cell)) (g2 : List (List Cell)) (u2 : List (List Cell)) (v2 : List (List Cell)) (m2 : Bool) (hg : okM cf1 ct1 bf1 bt1 ef1 et1 g1 u1 v1 = true) : runF E (callOf L6) 1 7 [.agg [.int .i64 k1, .int .i64 f1, .int .i64 t1, .int .i64 p1, .int .i64 n1, .int .i64 r1, .int .i64 o1, .sl false 74 cf1, .sl false 74 ct1, .sl false 74 bf1, .sl false 74 bt1, .bool h1, .sl false 74 ef1, .sl false 74 et1, .sl false 74 g1, .sl false 48 u1, .sl false 52 v1, .bool m1], .agg [.int .i64 k2, .int .i64 f2, .int .i64 t2, .int .i64 p2, .int .i64 n2, .int .i64 r2, .int .i64 o2, .sl false 74 cf2, .sl false 74 ct2, .sl false 74 bf2, .sl false 74 bt2, .bool h2, .sl false 74 ef2, .sl false 74 et2, .sl false 74 g2, .sl false 48 u2, .sl false 52 v2, .bool m2]] [] = some ([.one (.bool (eqM k1 f1 t1 p1 n1 r1 o1 cf1 ct1 bf1 bt1 h1 ef1 et1 g1 u1 v1 m1 k2 f2 t2 p2 n2 r2 o2 cf2 ct2 bf2 bt2 h2 ef2 et2 g2 u2 v2 m2))], []) := by
  obtain ⟨g1', g2', g3, g4, g5, g6, g7, g8, g9⟩ := okM_of hg
  rw [e7, g1', g2', g3, g4, g5, g6, g7, g8, g9]
  unfold eqM
  simp only [bne, Bool.and_true]
  generalize (k1 == k2) = b1
  generalize (f1 == f2) = b2
  generalize (t1 == t2) = b3
  generalize (p1 == p2) = b4
  generalize (n1 == n2) = b5
  generalize (r1 == r2) = b6
  generalize (o1 == o2) = b7
  generalize (h1 == h2) = b8
  generalize (m1 == m2) = b9
  generalize (eqCfg cf1 cf2 && eqCfg ct1 ct2) = b10
  generalize (eqCfg bf1 bf2 && eqCfg bt1 bt2) = b11
  generalize (eqCfg ef1 ef2 && eqCfg et1 et2) = b12
  generalize eqCfg g1 g2 = b13
  generalize eqSt u1 u2 = b14
  generalize eqVec v1 v2 = b15
  clear hg g1' g2' g3 g4 g5 g6 g7 g8 g9
  cases b1 <;> cases b2 <;> cases b3 <;> cases b4 <;> cases b5 <;> (try rfl) <;> cases b6 <;> cases b7 <;> (try rfl) <;> cases b8 <;> cases b9 <;> (try rfl) <;> cases b10 <;> cases b11 <;> (try rfl) <;> cases b12 <;> cases b13 <;> (try rfl) <;> cases b14 <;> rfl

theorem k4 (k1 : Int) (f1 : Int) (t1 : Int) (p1 : Int) (n1 : Int) (r1 : Int) (o1 : Int) (cf1 : List (List Cell)) (ct1 : List (List Cell)) (bf1 : List (List Cell)) (bt1 : List (List Cell)) (h1 : Bool) (ef1 : List (List Cell)) (et1 : List (List Cell)) (g1 : List (List Cell)) (u1 : List (List Cell)) (v1 : List (List Cell)) (m1 : Bool) : runF E (callOf L7) 1 4 [.agg [.int .i64 k1, .int .i64 f1, .int .i64 t1, .int .i64 p1, .int .i64 n1, .int .i64 r1, .int .i64 o1, .sl false 74 cf1, .sl false 74 ct1, .sl false 74 bf1, .sl false 74 bt1, .bool h1, .sl false 74 ef1, .sl false 74 et1, .sl false 74 g1, .sl false 48 u1, .sl false 52 v1, .bool m1]] [] = some ([.one (.bool (shortM cf1 ct1 bf1 bt1 ef1 et1 g1 u1 v1))], []) := by
  rw [e4]
  have c30 : ∀ l : List (List Cell), decide ((l.length : Int) ≤ 30) = decide (l.length ≤ 30) := fun l => decide_eq_decide.2 (by omega)
  have c60 : ∀ l : List (List Cell), decide ((l.length : Int) ≤ 60) = decide (l.length ≤ 60) := fun l => decide_eq_decide.2 (by omega)
  simp only [c30, c60]
  unfold shortM
  cases decide (g1.length ≤ 30) <;> cases decide (u1.length ≤ 60) <;> cases decide (v1.length ≤ 60) <;> (try rfl) <;> cases decide (cf1.length ≤ 30) <;> cases decide (ct1.length ≤ 30) <;> (try rfl) <;> cases decide (bf1.length ≤ 30) <;> cases decide (bt1.length ≤ 30) <;> (try rfl) <;> cases decide (ef1.length ≤ 30) <;> rfl

theorem eqM_refl (k1 : Int) (f1 : Int) (t1 : Int) (p1 : Int) (n1 : Int) (r1 : Int) (o1 : Int) (cf1 : List (List Cell)) (ct1 : List (List Cell)) (bf1 : List (List Cell)) (bt1 : List (List Cell)) (h1 : Bool) (ef1 : List (List Cell)) (et1 : List (List Cell)) (g1 : List (List Cell)) (u1 : List (List Cell)) (v1 : List (List Cell)) (m1 : Bool) : eqM k1 f1 t1 p1 n1 r1 o1 cf1 ct1 bf1 bt1 h1 ef1 et1 g1 u1 v1 m1 k1 f1 t1 p1 n1 r1 o1 cf1 ct1 bf1 bt1 h1 ef1 et1 g1 u1 v1 m1 = true := by
  unfold eqM
  simp [eqCfg_refl, eqSt_refl, eqVec_refl]

theorem law3 (k1 : Int) (f1 : Int) (t1 : Int) (p1 : Int) (n1 : Int) (r1 : Int) (o1 : Int) (cf1 : List (List Cell)) (ct1 : List (List Cell)) (bf1 : List (List Cell)) (bt1 : List (List Cell)) (h1 : Bool) (ef1 : List (List Cell)) (et1 : List (List Cell)) (g1 : List (List Cell)) (u1 : List (List Cell)) (v1 : List (List Cell)) (m1 : Bool) (k2 : Int) (f2 : Int) (t2 : Int) (p2 : Int) (n2 : Int) (r2 : Int) (o2 : Int) (cf2 : List (List Cell)) (ct2 : List (List Cell)) (bf2 : List (List Cell)) (bt2 : List (List Cell)) (h2 : Bool) (ef2 : List (List Cell)) (et2 : List (List Cell)) (g2 : List (List Cell)) (u2 : List (List Cell)) (v2 : List (List Cell)) (m2 : Bool) (ha : okArgM cf1 ct1 bf1 bt1 ef1 et1 g1 u1 v1 = true) : runF E (callOf L5) 1 3 [.agg [.int .i64 k1, .int .i64 f1, .int .i64 t1, .int .i64 p1, .int .i64 n1, .int .i64 r1, .int .i64 o1, .sl false 74 cf1, .sl false 74 ct1, .sl false 74 bf1, .sl false 74 bt1, .bool h1, .sl false 74 ef1, .sl false 74 et1, .sl false 74 g1, .sl false 48 u1, .sl false 52 v1, .bool m1], .agg [.int .i64 k2, .int .i64 f2, .int .i64 t2, .int .i64 p2, .int .i64 n2, .int .i64 r2, .int .i64 o2, .sl false 74 cf2, .sl false 74 ct2, .sl false 74 bf2, .sl false 74 bt2, .bool h2, .sl false 74 ef2, .sl false 74 et2, .sl false 74 g2, .sl false 48 u2, .sl false 52 v2, .bool m2]] [] = some ([.one (.bool true)], []) := by
  rw [e3]
  refine cs (fun _ => rfl) fun q1 => cs (fun _ => rfl) fun q2 => ?_
  have hs : shortM cf1 ct1 bf1 bt1 ef1 et1 g1 u1 v1 = true := by simpa using q1
  have hok : okM cf1 ct1 bf1 bt1 ef1 et1 g1 u1 v1 = true := by
    unfold shortM at hs
    unfold okArgM at ha
    simp only [Bool.and_eq_true, decide_eq_true_eq] at hs ha
    obtain ⟨s1, s2, s3, s4, s5, s6, s7, s8, s9⟩ := hs
    obtain ⟨⟨a1, a2⟩, ⟨a3, a4⟩, ⟨a5, a6⟩, a7, a8⟩ := ha
    unfold okM
    rw [okRows_mk (by omega) a1, okRows_mk (by omega) a2, okRows_mk (by omega) a3, okRows_mk (by omega) a4, okRows_mk (by omega) a5, okRows_mk (by omega) a6, okRows_mk (by omega) a7, okRows_mkU (by omega) a8, okLn_mk (by omega)]
    rfl
  exact ct hok (ct hok (ct (beq_iff_eq.2 rfl) (ct hok (ct (eqM_refl k1 f1 t1 p1 n1 r1 o1 cf1 ct1 bf1 bt1 h1 ef1 et1 g1 u1 v1 m1) rfl))))

end Go.Proofs.Ytejimgikldiajaa
