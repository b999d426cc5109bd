/-
  The contracts of the program's functions over sets of updates.
-/
import Derived.Test.YtkfniijfenkocaaStA
namespace Go.Proofs.Ytkfniijfenkocaa
open Go.Abs

theorem cmp_eq (r q : List Cell) : (cmpU (nr r 0) (nr r 1) (nr q 0) (nr q 1) == 0) = kEq r q := by
  rw [Bool.eq_iff_iff, beq_iff_eq, kEq_iff]
  have := cmpU_cases (nr r 0) (nr r 1) (nr q 0) (nr q 1)
  omega

theorem cmp_lt (r q : List Cell) : decide (cmpU (nr r 0) (nr r 1) (nr q 0) (nr q 1) < 0) = kLt r q := by
  rw [Bool.eq_iff_iff, decide_eq_true_eq, kLt_iff]
  have := cmpU_cases (nr r 0) (nr r 1) (nr q 0) (nr q 1)
  omega

theorem cmp_gt (r q : List Cell) : decide (cmpU (nr r 0) (nr r 1) (nr q 0) (nr q 1) > 0) = kLt q r := by
  rw [Bool.eq_iff_iff, decide_eq_true_eq, kLt_iff]
  have := cmpU_cases (nr r 0) (nr r 1) (nr q 0) (nr q 1)
  omega

theorem okM_of {n : Nat} {c : List (List Cell)} (h : okM n c = true) : n = c.length ∧ c.length ≤ 1000 ∧ Asc c ∧ c.all isUR = true := by
  unfold okM at h
  simp only [Bool.and_eq_true] at h
  obtain ⟨h1, h2, h3⟩ := h
  obtain ⟨h4, h5⟩ := okSrt_of h2
  exact ⟨Nat.eq_of_beq_eq_true h1, h4, h5, h3⟩

theorem okM_mk {c : List (List Cell)} (h1 : c.length ≤ 1000) (h2 : Asc c) (h3 : c.all isUR = true) : okM c.length c = true := by
  unfold okM
  rw [okSrt_mk h1 h2, h3, Nat.beq_refl]
  rfl

theorem okMl_of {n : Nat} {c : List (List Cell)} (h : okMl n c = true) : n = c.length ∧ c.length ≤ 1000 := by
  unfold okMl at h
  simp only [Bool.and_eq_true] at h
  exact ⟨Nat.eq_of_beq_eq_true h.1, okLn_of h.2⟩

theorem okMl_mk {c : List (List Cell)} (h1 : c.length ≤ 1000) : okMl c.length c = true := by
  unfold okMl
  rw [okLn_mk h1, Nat.beq_refl]
  rfl

/- BINARY SEARCH -/

theorem l74 (c : List (List Cell)) (a n t : Int) (p : List (List Cell)) (hc : c.length ≤ 1000) (ha : Asc c) : ∀ (d i j : Nat), j - i ≤ d → i ≤ lowK c (urow a n t p) → lowK c (urow a n t p) ≤ j → j ≤ c.length →
    ∃ m, goF E (callOf L39) F74 0 m P74_0 (M74_0 c c.length i j a n t p) = some ([.one (.int .i64 (lowK c (urow a n t p) : Int)), .one (.bool (hasK c (urow a n t p)))], []) := by
  intro d
  induction d with
  | zero =>
    intro i j hd h1 h2 h3
    have hi : i = lowK c (urow a n t p) := by omega
    subst hi
    refine ⟨1, ?_⟩
    rw [e74_0, hasK_low ha]
    refine cf (decide_eq_false (by omega)) ?_
    by_cases hl : lowK c (urow a n t p) < c.length
    · refine ct (decide_eq_true (by omega)) (ct (inB_nat' hl) ?_)
      rw [Int.toNat_natCast, decide_eq_true hl, Bool.true_and, ← cmp_eq]
      rfl
    · rw [decide_eq_false hl, Bool.false_and]
      exact cf (decide_eq_false (by omega)) rfl
  | succ d ih =>
    intro i j hd h1 h2 h3
    by_cases hij : i < j
    · have hlt : (i + j) / 2 < c.length := by omega
      have hcmp := cmp_lt (Abs.rowAt c ((i + j) / 2)) (urow a n t p)
      by_cases hk : kLt (Abs.rowAt c ((i + j) / 2)) (urow a n t p) = true
      · have hlo : (i + j) / 2 < lowK c (urow a n t p) := by
          refine Nat.lt_of_not_le fun hle => ?_
          have := lowK_ge ha hlt hle
          rw [hk] at this
          cases this
        obtain ⟨m, hm⟩ := ih ((i + j) / 2 + 1) j (by omega) (by omega) h2 h3
        refine ⟨m + 1, ?_⟩
        rw [e74_0, mid_eq (by omega), Int.toNat_natCast]
        refine ct (decide_eq_true (by omega)) (ct (inB_nat' hlt) (ct (hcmp.trans hk) ?_))
        rw [nat_wrap (n := c.length) hlt (by omega)]
        exact hm
      · have hlo : lowK c (urow a n t p) ≤ (i + j) / 2 := by
          refine Nat.le_of_not_lt fun h => hk (lowK_lt h)
        obtain ⟨m, hm⟩ := ih i ((i + j) / 2) (by omega) h1 hlo (by omega)
        refine ⟨m + 1, ?_⟩
        rw [e74_0, mid_eq (by omega), Int.toNat_natCast]
        exact ct (decide_eq_true (by omega)) (ct (inB_nat' hlt) (cf (hcmp.trans (by simpa using hk)) hm))
    · exact ih i j (by omega) h1 h2 h3

theorem k74 (c : List (List Cell)) (a n t : Int) (p : List (List Cell)) (h : okSrt c = true) : ∃ m, runF E (callOf L39) m 74 [.one (.sl false 43 c), .agg [.int .i64 a, .int .i64 n, .int .i64 t, .sl false 61 p], .one (.fn 41 [])] [] = some ([.one (.int .i64 (lowK c (urow a n t p) : Int)), .one (.bool (hasK c (urow a n t p)))], []) := by
  obtain ⟨h1, h2⟩ := okSrt_of h
  obtain ⟨m, hm⟩ := l74 c a n t p h1 h2 c.length 0 c.length (by omega) (by omega) (lowK_le _ _) (by omega)
  exact ⟨m + 1, by rw [e74]; exact hm⟩

theorem l74c (c : List (List Cell)) (a n t : Int) (p : List (List Cell)) (hc : c.length ≤ 1000) (ha : Asc c) : ∀ (d i j : Nat), j - i ≤ d → i ≤ lowK c (urow a n t p) → lowK c (urow a n t p) ≤ j → j ≤ c.length →
    ∃ m, goF E (callOf L39) F74 1 m P74_0_c1 (M74_0_c1 c.length c.length i j c a n t p) = some ([.one (.int .i64 (lowK c (urow a n t p) : Int)), .one (.bool (hasK c (urow a n t p)))], [.arr 43 c]) := by
  intro d
  induction d with
  | zero =>
    intro i j hd h1 h2 h3
    have hi : i = lowK c (urow a n t p) := by omega
    subst hi
    refine ⟨1, ?_⟩
    rw [e74_0_c1, hasK_low ha]
    refine cf (decide_eq_false (by omega)) ?_
    by_cases hl : lowK c (urow a n t p) < c.length
    · refine ct (decide_eq_true (by omega)) (ct (inB_nat' hl) (ct (blt_mk hl) ?_))
      rw [Int.toNat_natCast, decide_eq_true hl, Bool.true_and, ← cmp_eq]
      rfl
    · rw [decide_eq_false hl, Bool.false_and]
      exact cf (decide_eq_false (by omega)) rfl
  | succ d ih =>
    intro i j hd h1 h2 h3
    by_cases hij : i < j
    · have hlt : (i + j) / 2 < c.length := by omega
      have hcmp := cmp_lt (Abs.rowAt c ((i + j) / 2)) (urow a n t p)
      by_cases hk : kLt (Abs.rowAt c ((i + j) / 2)) (urow a n t p) = true
      · have hlo : (i + j) / 2 < lowK c (urow a n t p) := by
          refine Nat.lt_of_not_le fun hle => ?_
          have := lowK_ge ha hlt hle
          rw [hk] at this
          cases this
        obtain ⟨m, hm⟩ := ih ((i + j) / 2 + 1) j (by omega) (by omega) h2 h3
        refine ⟨m + 1, ?_⟩
        rw [e74_0_c1, mid_eq (by omega), Int.toNat_natCast]
        refine ct (decide_eq_true (by omega)) (ct (inB_nat' hlt) (ct (blt_mk hlt) (ct (hcmp.trans hk) ?_)))
        rw [nat_wrap (n := c.length) hlt (by omega)]
        exact hm
      · have hlo : lowK c (urow a n t p) ≤ (i + j) / 2 := by
          refine Nat.le_of_not_lt fun h => hk (lowK_lt h)
        obtain ⟨m, hm⟩ := ih i ((i + j) / 2) (by omega) h1 hlo (by omega)
        refine ⟨m + 1, ?_⟩
        rw [e74_0_c1, mid_eq (by omega), Int.toNat_natCast]
        exact ct (decide_eq_true (by omega)) (ct (inB_nat' hlt) (ct (blt_mk hlt) (cf (hcmp.trans (by simpa using hk)) hm)))
    · exact ih i j (by omega) h1 h2 h3

theorem k74c (n : Nat) (a k t : Int) (p c : List (List Cell)) (h : okM n c = true) : ∃ m, runF E (callOf L39) m 74 [.one (.msl 43 0 n), .agg [.int .i64 a, .int .i64 k, .int .i64 t, .sl false 61 p], .one (.fn 41 [])] [.arr 43 c] = some ([.one (.int .i64 (lowK c (urow a k t p) : Int)), .one (.bool (hasK c (urow a k t p)))], [.arr 43 c]) := by
  obtain ⟨rfl, h1, h2, _⟩ := okM_of h
  obtain ⟨m, hm⟩ := l74c c a k t p h1 h2 c.length 0 c.length (by omega) (by omega) (lowK_le _ _) (by omega)
  exact ⟨m + 1, by rw [e74_c1]; exact hm⟩

theorem k49 (c : List (List Cell)) (a n t : Int) (p : List (List Cell)) (h : okSrt c = true) : runF E (callOf L74) 1 49 [.one (.sl false 43 c), .agg [.int .i64 a, .int .i64 n, .int .i64 t, .sl false 61 p]] [] = some ([.one (.int .i64 (lowK c (urow a n t p) : Int)), .one (.bool (hasK c (urow a n t p)))], []) := by
  rw [e49]
  exact ct h rfl

theorem k49c (n : Nat) (a k t : Int) (p c : List (List Cell)) (h : okM n c = true) : runF E (callOf L74) 1 49 [.one (.msl 43 0 n), .agg [.int .i64 a, .int .i64 k, .int .i64 t, .sl false 61 p]] [.arr 43 c] = some ([.one (.int .i64 (lowK c (urow a k t p) : Int)), .one (.bool (hasK c (urow a k t p)))], [.arr 43 c]) := by
  rw [e49_c1]
  exact ct h rfl

/- HOW MANY OF A CLIENT -/

theorem cntS_cons (r : List Cell) (c : List (List Cell)) (a : Int) : cntS (r :: c) a = (if nr r 0 = a then 1 else 0) + cntS c a := by
  unfold cntS
  rw [List.filter_cons]
  by_cases h : nr r 0 = a
  · rw [if_pos (decide_eq_true h), if_pos h, List.length_cons]; omega
  · rw [if_neg (by simpa using h), if_neg h]; omega

theorem cntS_le (c : List (List Cell)) (a : Int) : 0 ≤ cntS c a ∧ cntS c a ≤ c.length := by
  unfold cntS
  have := List.length_filter_le (fun r => decide (nr r 0 = a)) c
  omega

theorem l56 (c : List (List Cell)) (a : Int) (hc : c.length ≤ 1000) : ∀ (d i : Nat) (k : Int), i + d = c.length → 0 ≤ k → k ≤ i →
    ∃ m, goF E (callOf L49) F56 0 m P56_0 (M56_0 a k c c.length i) = some ([.one (.int .i64 (k + cntS (c.drop i) a))], [])
  | 0, i, k, hi, h0, h1 => by
    refine ⟨1, ?_⟩
    rw [e56_0]
    have : c.drop i = [] := List.drop_eq_nil_of_le (by omega)
    rw [this]
    exact cf (decide_eq_false (by omega)) (by simp [cntS])
  | d + 1, i, k, hi, h0, h1 => by
    have hi' : i < c.length := by omega
    by_cases h : nr (Abs.rowAt c i) 0 = a
    · obtain ⟨m, hm⟩ := l56 c a hc d (i + 1) (k + 1) (by omega) (by omega) (by omega)
      refine ⟨m + 1, ?_⟩
      rw [e56_0, Int.toNat_natCast, drop_cons c i hi', cntS_cons, if_pos h, nat_wrap (n := c.length) hi' (by omega), wrap64 (n := k + 1) (by omega) (by omega), ← Int.add_assoc, hm]
      exact ct (decide_eq_true (by omega)) (ct (inB_nat' hi') (ct (beq_iff_eq.2 h) rfl))
    · obtain ⟨m, hm⟩ := l56 c a hc d (i + 1) k (by omega) (by omega) (by omega)
      refine ⟨m + 1, ?_⟩
      rw [e56_0, Int.toNat_natCast, drop_cons c i hi', cntS_cons, if_neg h, nat_wrap (n := c.length) hi' (by omega), Int.zero_add, hm]
      exact ct (decide_eq_true (by omega)) (ct (inB_nat' hi') (cf (beq_eq_false_iff_ne.2 h) rfl))

theorem k56 (c : List (List Cell)) (a : Int) (h : okLn c = true) : ∃ m, runF E (callOf L49) m 56 [.one (.sl false 43 c), .one (.int .i64 a)] [] = some ([.one (.int .i64 (cntS c a))], []) := by
  obtain ⟨m, hm⟩ := l56 c a (okLn_of h) c.length 0 0 (by omega) (by omega) (by omega)
  rw [List.drop_zero, Int.zero_add] at hm
  exact ⟨m + 1, by rw [e56]; exact hm⟩

theorem l56c (c : List (List Cell)) (a : Int) (hc : c.length ≤ 1000) : ∀ (d i : Nat) (k : Int), i + d = c.length → 0 ≤ k → k ≤ i →
    ∃ m, goF E (callOf L49) F56 1 m P56_0_c1 (M56_0_c1 a k c.length c.length i c) = some ([.one (.int .i64 (k + cntS (c.drop i) a))], [.arr 43 c])
  | 0, i, k, hi, h0, h1 => by
    refine ⟨1, ?_⟩
    rw [e56_0_c1]
    have : c.drop i = [] := List.drop_eq_nil_of_le (by omega)
    rw [this]
    exact cf (decide_eq_false (by omega)) (by simp [cntS])
  | d + 1, i, k, hi, h0, h1 => by
    have hi' : i < c.length := by omega
    by_cases h : nr (Abs.rowAt c i) 0 = a
    · obtain ⟨m, hm⟩ := l56c c a hc d (i + 1) (k + 1) (by omega) (by omega) (by omega)
      refine ⟨m + 1, ?_⟩
      rw [e56_0_c1, Int.toNat_natCast, drop_cons c i hi', cntS_cons, if_pos h, nat_wrap (n := c.length) hi' (by omega), wrap64 (n := k + 1) (by omega) (by omega), ← Int.add_assoc, hm]
      exact ct (decide_eq_true (by omega)) (ct (inB_nat' hi') (ct (blt_mk hi') (ct (beq_iff_eq.2 h) rfl)))
    · obtain ⟨m, hm⟩ := l56c c a hc d (i + 1) k (by omega) (by omega) (by omega)
      refine ⟨m + 1, ?_⟩
      rw [e56_0_c1, Int.toNat_natCast, drop_cons c i hi', cntS_cons, if_neg h, nat_wrap (n := c.length) hi' (by omega), Int.zero_add, hm]
      exact ct (decide_eq_true (by omega)) (ct (inB_nat' hi') (ct (blt_mk hi') (cf (beq_eq_false_iff_ne.2 h) rfl)))

theorem k56c (n : Nat) (a : Int) (c : List (List Cell)) (h : okMl n c = true) : ∃ m, runF E (callOf L49) m 56 [.one (.msl 43 0 n), .one (.int .i64 a)] [.arr 43 c] = some ([.one (.int .i64 (cntS c a))], [.arr 43 c]) := by
  obtain ⟨rfl, h1⟩ := okMl_of h
  obtain ⟨m, hm⟩ := l56c c a h1 c.length 0 0 (by omega) (by omega) (by omega)
  rw [List.drop_zero, Int.zero_add] at hm
  exact ⟨m + 1, by rw [e56_c1]; exact hm⟩

/- CONTAINMENT -/

theorem k48 (a n t : Int) (p d : List (List Cell)) (h : okSrt d = true) : runF E (callOf L56) 1 48 [.agg [.int .i64 a, .int .i64 n, .int .i64 t, .sl false 61 p], .one (.ptr 0 0)] [.var [.sl false 43 d]] = some ([.one (.bool (!(hasK d (urow a n t p))))], [.var [.sl false 43 d]]) := by
  rw [e48]
  exact ct h rfl

theorem hasK_urow (c : List (List Cell)) (r : List Cell) (t : Int) (p : List (List Cell)) : hasK c (urow (nr r 0) (nr r 1) t p) = hasK c r := rfl

theorem l73 (c d : List (List Cell)) (hc : c.length ≤ 1000) (hd : okSrt d = true) : ∀ (e i : Nat), i + e = c.length →
    ∃ m, goF E (callOf L48) F73 1 m P73_0 (M73_0 c c.length i d) = some ([.one (.int .i64 (idxNF d i (c.drop i)))], [.var [.sl false 43 d]])
  | 0, i, hi => by
    refine ⟨1, ?_⟩
    rw [e73_0]
    have : c.drop i = [] := List.drop_eq_nil_of_le (by omega)
    rw [this]
    exact cf (decide_eq_false (by omega)) rfl
  | e + 1, i, hi => by
    have hi' : i < c.length := by omega
    by_cases h : hasK d (Abs.rowAt c i) = true
    · obtain ⟨m, hm⟩ := l73 c d hc hd e (i + 1) (by omega)
      refine ⟨m + 1, ?_⟩
      rw [e73_0, Int.toNat_natCast, hasK_urow, drop_cons c i hi', idxNF, if_pos h, nat_wrap (n := c.length) hi' (by omega), show (i : Int) + 1 = ((i + 1 : Nat) : Int) by omega, hm, h]
      exact ct (decide_eq_true (by omega)) (ct (inB_nat' hi') (ct hd rfl))
    · refine ⟨1, ?_⟩
      have h' : hasK d (Abs.rowAt c i) = false := by simpa using h
      rw [e73_0, Int.toNat_natCast, hasK_urow, drop_cons c i hi', idxNF, if_neg h, h']
      exact ct (decide_eq_true (by omega)) (ct (inB_nat' hi') (ct hd rfl))

theorem k73 (c d : List (List Cell)) (h : (okLn c && okSrt d) = true) : ∃ m, runF E (callOf L48) m 73 [.one (.sl false 43 c), .one (.fn 48 [.ptr 0 0])] [.var [.sl false 43 d]] = some ([.one (.int .i64 (idxN d c))], [.var [.sl false 43 d]]) := by
  simp only [Bool.and_eq_true] at h
  obtain ⟨m, hm⟩ := l73 c d (okLn_of h.1) h.2 c.length 0 (by omega)
  exact ⟨m + 1, by rw [e73]; exact hm⟩

theorem idxNF_ge (d : List (List Cell)) : ∀ (c : List (List Cell)) (i : Int), 0 ≤ i → decide (idxNF d i c ≥ 0) = !(contK d c)
  | [], i, _ => rfl
  | r :: c, i, h0 => by
    unfold contK at *
    rw [idxNF, List.all_cons]
    cases h : hasK d r with
    | true => rw [if_pos rfl, Bool.true_and]; exact idxNF_ge d c (i + 1) (by omega)
    | false => rw [if_neg (by simp)]; simpa using h0

theorem k47 (c d : List (List Cell)) (h : (okLn c && okSrt d) = true) : runF E (callOf L73) 1 47 [.one (.sl false 43 c), .one (.fn 48 [.ptr 0 0])] [.var [.sl false 43 d]] = some ([.one (.bool (!(contK d c)))], [.var [.sl false 43 d]]) := by
  rw [e47]
  refine ct h ?_
  unfold idxN
  rw [idxNF_ge d c 0 (by omega)]

theorem k19 (c d : List (List Cell)) (h : (okSrt c && okLn d) = true) : runF E (callOf L47) 1 19 [.one (.sl false 43 c), .one (.sl false 43 d)] [] = some ([.one (.bool (contK c d))], []) := by
  rw [e19]
  simp only [Bool.and_eq_true] at h
  refine ct (by rw [h.1, h.2]; rfl) ?_
  rw [Bool.not_not]

theorem k21 (c d : List (List Cell)) (h : (okSrt c && okSrt d) = true) : runF E (callOf L19) 1 21 [.one (.sl false 43 c), .one (.sl false 43 d)] [] = some ([.one (.bool (contK c d && contK d c))], []) := by
  simp only [Bool.and_eq_true] at h
  have h1 : okLn c = true := okLn_mk (okSrt_of h.1).1
  have h2 : okLn d = true := okLn_mk (okSrt_of h.2).1
  rw [e21, h.1, h.2, h1, h2]
  cases contK c d <;> rfl

theorem l17 (c : List (List Cell)) (hc : c.length ≤ 1000) : ∀ (d i : Nat) (v : List (List Cell)), i + d = c.length → v.length ≤ i → CntOk v i →
    ∃ m, goF E (callOf L21) F17 0 m P17_0 (M17_0 v.length c c.length i v) = some ([.one (.sl false 65 (vecF v (c.drop i)))], [])
  | 0, i, v, hi, hv, ho => by
    refine ⟨1, ?_⟩
    rw [e17_0]
    have : c.drop i = [] := List.drop_eq_nil_of_le (by omega)
    rw [this]
    exact cf (decide_eq_false (by omega)) (ct (Nat.beq_refl _) rfl)
  | d + 1, i, v, hi, hv, ho => by
    have hi' : i < c.length := by omega
    have hl := vstep_len v (nr (Abs.rowAt c i) 0)
    obtain ⟨m, hm⟩ := l17 c hc d (i + 1) (vstep v (nr (Abs.rowAt c i) 0)) (by omega) (by omega) (vstep_cnt ho _)
    refine ⟨m + 1, ?_⟩
    have e1 : vecF v (c.drop i) = vecF (vstep v (nr (Abs.rowAt c i) 0)) (c.drop (i + 1)) := by rw [drop_cons c i hi']; rfl
    rw [e17_0, e1, ← hm, Int.toNat_natCast, nat_wrap (n := c.length) hi' (by omega)]
    refine ct (decide_eq_true (by omega)) (ct (inB_nat' hi') ?_)
    have hnew : ∀ h : ¬ (0 < v.length ∧ nr (Abs.rowAt v (v.length - 1)) 0 = nr (Abs.rowAt c i) 0),
        cond (Nat.beq v.length v.length) (cond (fits (v.length + [[Cell.int .i64 (nr (Abs.rowAt c i) 0), Cell.int .i64 1]].length))
          (goF E (callOf L21) F17 0 m P17_0 (M17_0 (v.length + [[Cell.int .i64 (nr (Abs.rowAt c i) 0), Cell.int .i64 1]].length) c c.length ((i + 1 : Nat) : Int) (v ++ [[Cell.int .i64 (nr (Abs.rowAt c i) 0), Cell.int .i64 1]]))) none) none =
        goF E (callOf L21) F17 0 m P17_0 (M17_0 (vstep v (nr (Abs.rowAt c i) 0)).length c c.length ((i + 1 : Nat) : Int) (vstep v (nr (Abs.rowAt c i) 0))) := fun h => by
      refine ct (Nat.beq_refl _) (ct (fits_of (by simp; omega)) ?_)
      unfold vstep
      rw [if_neg h, List.length_append]
      rfl
    by_cases h0 : 0 < v.length
    · have hw : IntKind.wrap .i64 ((v.length : Int) - 1) = ((v.length - 1 : Nat) : Int) := by rw [wrap64 (by omega) (by omega)]; omega
      rw [hw, Int.toNat_natCast]
      have hin : inB ((v.length - 1 : Nat) : Int) v.length = true := inB_nat' (by omega)
      have hbl : Nat.blt (v.length - 1) v.length = true := blt_mk (by omega)
      refine ct (decide_eq_true (by omega)) (ct hin (ct hbl ?_))
      by_cases h1 : nr (Abs.rowAt v (v.length - 1)) 0 = nr (Abs.rowAt c i) 0
      · refine ct (beq_iff_eq.2 h1) (ct hin (ct hbl (ct hin (ct hbl ?_))))
        have hen := ho _ (rowAt_mem (l := v) (i := v.length - 1) (by omega))
        rw [setN_eq, set_last h0, setCells_en hen.1, wrap64 (by omega) (by omega), h1]
        unfold vstep
        rw [if_pos ⟨h0, h1⟩]
        have q3 : (v.take (v.length - 1) ++ [ent (nr (Abs.rowAt c i) 0) (nr (Abs.rowAt v (v.length - 1)) 1 + 1)]).length = v.length := by simp; omega
        rw [q3]
      · exact cf (beq_eq_false_iff_ne.2 h1) (hnew fun h => h1 h.2)
    · exact cf (decide_eq_false (by omega)) (hnew fun h => h0 h.1)

theorem k17 (c : List (List Cell)) (h : okLn c = true) : ∃ m, runF E (callOf L21) m 17 [.one (.sl false 43 c)] [] = some ([.one (.sl false 65 (vecK c))], []) := by
  obtain ⟨m, hm⟩ := l17 c (okLn_of h) c.length 0 [] (by omega) (by simp) (fun e he => by cases he)
  exact ⟨m + 1, by rw [e17]; exact hm⟩

/- UNION -/

theorem isUR_eq {r : List Cell} (h : isUR r = true) : urow (nr r 0) (nr r 1) (nr r 2) (nl r 3) = r := by
  unfold isUR at h
  split at h
  · have := Nat.eq_of_beq_eq_true h
    subst this
    rfl
  · cases h

theorem ur_at {c : List (List Cell)} (h : c.all isUR = true) {i : Nat} (hi : i < c.length) : urow (nr (Abs.rowAt c i) 0) (nr (Abs.rowAt c i) 1) (nr (Abs.rowAt c i) 2) (nl (Abs.rowAt c i) 3) = Abs.rowAt c i :=
  isUR_eq (all_at h hi)

theorem insA_eq : ∀ {c : List (List Cell)} {p : List Cell}, hasK c p = false → insA c p = insK c p
  | [], p, _ => by simp [insA, insL, insK, lowK]
  | q :: l, p, h => by
    rw [hasK_cons, Bool.or_eq_false_iff] at h
    have ih := insA_eq h.2
    have h1 : ¬ kEq p q = true := fun e => by
      have := h.1
      rw [kEq_false] at this
      rw [kEq_iff] at e
      exact this ⟨e.1.symm, e.2.symm⟩
    unfold insK
    rw [if_neg h1]
    unfold insA insL lowK
    by_cases h2 : kLt p q = true
    · have h3 : kLt q p = false := by
        rw [kLt_iff] at h2
        rw [kLt_false]
        omega
      rw [if_pos h2, List.takeWhile_cons, h3]
      rfl
    · have h3 : kLt q p = true := by
        have h2' : kLt p q = false := by simpa using h2
        rw [kLt_false] at h2'
        have h4 := h.1
        rw [kEq_false] at h4
        rw [kLt_iff]
        omega
      rw [if_neg h2, List.takeWhile_cons, if_pos h3]
      unfold insA insL lowK at ih
      simp only [List.length_cons, List.take_succ_cons, List.drop_succ_cons, List.cons_append]
      rw [ih]

theorem okCln_of_cl {c : List (List Cell)} (h : okCl c = true) : okCln c = true := by
  unfold okCl at h
  simp only [Bool.and_eq_true] at h
  unfold okCln
  rw [okLn_mk (okSrt_of h.1).1, h.2.2]
  rfl

theorem okCl_of {c : List (List Cell)} (h : okCl c = true) : c.length ≤ 1000 ∧ Asc c ∧ c.all isUR = true ∧ ∀ r ∈ c, okEf (nl r 3) = true := by
  unfold okCl at h
  simp only [Bool.and_eq_true] at h
  exact ⟨(okSrt_of h.1).1, (okSrt_of h.1).2, h.2.1, fun r hr => List.all_eq_true.1 h.2.2 r hr⟩

theorem all_insK {l : List (List Cell)} {p : List Cell} {f : List Cell → Bool} (h : l.all f = true) (hp : f p = true) : (insK l p).all f = true := List.all_eq_true.2 fun x hx => by
  rcases mem_insK.1 hx with hx | ⟨rfl, _⟩
  · exact List.all_eq_true.1 h x hx
  · exact hp

theorem k53 (n : Nat) (a k t : Int) (p c : List (List Cell)) (h : (okM n c && okEf p) = true) : runF E (callOf L17) 1 53 [.one (.msl 43 0 n), .agg [.int .i64 a, .int .i64 k, .int .i64 t, .sl false 61 p]] [.arr 43 c] = some ([.one (.msl 43 1 (c.length + 1))], [.dead, .arr 43 (insA c (urow a k t p))]) := by
  simp only [Bool.and_eq_true] at h
  obtain ⟨rfl, h1, h2, h3⟩ := okM_of h.1
  rw [e53]
  refine ct h.1 (ct ?_ (ct ?_ ?_))
  · unfold okCln okLn
    simp only [List.length_cons, List.length_nil, List.all_cons, List.all_nil, Bool.and_true, Bool.and_eq_true]
    exact ⟨rfl, h.2⟩
  · have := lowK_le c (urow a k t p)
    unfold okIns
    simp only [Bool.and_eq_true, decide_eq_true_eq]
    exact ⟨Nat.beq_refl _, Nat.beq_refl _, by omega, by omega, by simp, fits_of (by simp; omega)⟩
  · rw [Int.toNat_natCast]
    rfl

theorem k52 (c : List (List Cell)) (h : okCln c = true) : runF E (callOf L31) 1 52 [.one (.sl false 43 c)] [] = some ([.one (.msl 43 1 c.length)], [.dead, .arr 43 c]) :=
  (ct rfl (ct h rfl) : cond (Nat.beq 43 43) (cond (okCln c) (some ([AV.one (.msl 43 1 c.length)], [Block.dead, .arr 43 c])) none) none = _)

theorem k75 (n : Nat) (k : Int) (m : Nat) (x y : List (List Cell)) (h : (Nat.beq m y.length && okIns n k x y) = true) : runF E (callOf L52) 1 75 [.one (.msl 43 0 n), .one (.int .i64 k), .one (.msl 43 1 m)] [.arr 43 x, .arr 43 y] = some ([.one (.msl 43 2 (x.length + y.length))], [.dead, .arr 43 y, .arr 43 (insL x y (Int.toNat k))]) := by
  simp only [Bool.and_eq_true] at h
  exact (ct rfl (ct h.1 (ct h.2 rfl)) : cond (Nat.beq 43 43 && (Nat.beq 43 43 && (Nat.beq 43 43 && Nat.beq 43 43))) (cond (Nat.beq m y.length) (cond (okIns n k x y) (some ([AV.one (.msl 43 2 (x.length + y.length))], [Block.dead, .arr 43 y, .arr 43 (insL x y (Int.toNat k))])) none) none) none = _)


theorem insK_has : ∀ {c : List (List Cell)} {p : List Cell}, Asc c → hasK c p = true → insK c p = c
  | [], p, _, h => by cases h
  | q :: l, p, ha, h => by
    rw [asc_cons] at ha
    unfold insK
    by_cases h1 : kEq p q = true
    · rw [if_pos h1]
    · have h2 : kEq q p = false := by
        have h1' : kEq p q = false := by simpa using h1
        rw [kEq_false] at h1' ⊢
        omega
      rw [hasK_cons, h2, Bool.false_or] at h
      obtain ⟨x, hx, h3⟩ := hasK_iff.1 h
      have h4 := ha.1 x hx
      rw [kLt_iff] at h4
      have h5 : ¬ kLt p q = true := fun e => by
        rw [kLt_iff] at e
        omega
      rw [if_neg h1, if_neg h5, insK_has ha.2 h]

theorem l23 (d : List (List Cell)) (hd : d.length ≤ 1000) (hu : d.all isUR = true) (he : ∀ r ∈ d, okEf (nl r 3) = true) : ∀ (e i : Nat) (c : List (List Cell)), i + e = d.length → Asc c → c.all isUR = true → c.length + e ≤ 1000 →
    ∃ m, goF E (callOf L53) F23 0 m P23_0 (M23_0 c.length d d.length i c) = some ([.one (.sl false 43 (uniK c (d.drop i)))], [])
  | 0, i, c, hi, h1, h2, h3 => by
    refine ⟨1, ?_⟩
    rw [e23_0]
    have : d.drop i = [] := List.drop_eq_nil_of_le (by omega)
    rw [this]
    exact cf (decide_eq_false (by omega)) (ct (Nat.beq_refl _) rfl)
  | e + 1, i, c, hi, h1, h2, h3 => by
    have hi' : i < d.length := by omega
    have hM := okM_mk (c := c) (by omega) h1 h2
    have hmem := rowAt_mem hi'
    have hcons : uniK c (d.drop i) = uniK (insK c (Abs.rowAt d i)) (d.drop (i + 1)) := by rw [drop_cons d i hi']; rfl
    by_cases hk : hasK c (Abs.rowAt d i) = true
    · obtain ⟨m, hm⟩ := l23 d hd hu he e (i + 1) c (by omega) h1 h2 (by omega)
      refine ⟨m + 1, ?_⟩
      have hsame : insK c (Abs.rowAt d i) = c := insK_has h1 hk
      rw [e23_0, Int.toNat_natCast, hasK_urow, hcons, hsame, nat_wrap (n := d.length) hi' (by omega), hk]
      exact ct (decide_eq_true (by omega)) (ct (inB_nat' hi') (ct hM hm))
    · have hk' : hasK c (Abs.rowAt d i) = false := by simpa using hk
      have hl : (insK c (Abs.rowAt d i)).length = c.length + 1 := insK_len_new hk'
      obtain ⟨m, hm⟩ := l23 d hd hu he e (i + 1) (insK c (Abs.rowAt d i)) (by omega) (asc_insK h1) (all_insK h2 (all_at hu hi')) (by omega)
      refine ⟨m + 1, ?_⟩
      rw [hl] at hm
      rw [e23_0, Int.toNat_natCast, hasK_urow, hcons, nat_wrap (n := d.length) hi' (by omega), hk', ur_at hu hi', insA_eq hk']
      exact ct (decide_eq_true (by omega)) (ct (inB_nat' hi') (ct hM (ct rfl (ct (by rw [hM, he _ hmem]; rfl) hm))))

theorem k23 (c d : List (List Cell)) (h : okUn c d = true) : ∃ m, runF E (callOf L53) m 23 [.one (.sl false 43 c), .one (.sl false 43 d)] [] = some ([.one (.sl false 43 (uniK c d))], []) := by
  unfold okUn at h
  simp only [Bool.and_eq_true, decide_eq_true_eq] at h
  obtain ⟨h, hl⟩ := h
  obtain ⟨h1, h2, h3, h4⟩ := okCl_of h.1
  obtain ⟨g1, g2, g3, g4⟩ := okCl_of h.2
  obtain ⟨m, hm⟩ := l23 d g1 g3 g4 d.length 0 c (by omega) h2 h3 hl
  refine ⟨m + 1, ?_⟩
  rw [e23]
  exact ct (okCln_of_cl h.1) hm

theorem insA_len (c : List (List Cell)) (r : List Cell) : (insA c r).length = c.length + 1 := by
  have := lowK_le c r
  unfold insA insL
  simp
  omega

theorem k29 (c : List (List Cell)) (a n t : Int) (p : List (List Cell)) (h : (okCl c && okEf p) = true) : runF E (callOf L23) 1 29 [.one (.sl false 43 c), .agg [.int .i64 a, .int .i64 n, .int .i64 t, .sl false 61 p]] [] = some ([.one (.sl false 43 (addS c a n t p).1), .one (.int .i64 (addS c a n t p).2)], []) := by
  simp only [Bool.and_eq_true] at h
  obtain ⟨h1, h2, h3, h4⟩ := okCl_of h.1
  have hcnt := cntS_le c a
  rw [e29]
  unfold addS
  by_cases hv : vUpd a n t p = 0
  · rw [if_neg (by simpa using hv)]
    refine cf (by simpa using hv) (ct (okSrt_mk h1 h2) ?_)
    by_cases hh : hasK c (urow a n t p) = true
    · rw [if_pos hh]
      exact ct hh rfl
    · rw [if_neg hh]
      refine cf (by simpa using hh) (ct (okLn_mk h1) ?_)
      rw [wrap64 (by omega) (by omega)]
      by_cases hn : n = cntS c a + 1
      · rw [if_neg (by simpa using hn)]
        refine cf (by simpa using hn) (ct (okCln_of_cl h.1) (ct (by rw [okM_mk h1 h2 h3, h.2]; rfl) (ct (by rw [insA_len]; exact Nat.beq_refl _) ?_)))
        rw [insA_eq (by simpa using hh)]
      · rw [if_pos hn]
        exact ct (by simpa using hn) rfl
  · rw [if_pos hv]
    exact ct (by simpa using hv) rfl

/- MERGE -/

theorem vUpd_few {r : List Cell} (h : vUpdR r = 0) : okEf (nl r 3) = true := by
  have := vUpd_ok h
  unfold okEf
  exact decide_eq_true (by omega)

theorem in35 (c d : List (List Cell)) (p q : Int) (i : Nat) (hd : i < d.length) (hd2 : d.length ≤ 1000) (r : List Cell) (hr : vUpdR r = 0) (h1 : Asc c) (h2 : c.all isUR = true) (h3 : c.length ≤ 2000) (hp : 0 ≤ p ∧ p ≤ i) (R : List AV × List Block)
    (hc2 : c.length ≤ 1000)
    (hR : ∃ m, goF E (callOf L29) F35 0 m P35_0 (cond (hasK c r) (M35_0 c.length p q d d.length ((i + 1 : Nat) : Int) c) (M35_0 (c.length + 1) (p + 1) q d d.length ((i + 1 : Nat) : Int) (insA c (urow (nr r 0) (nr r 1) (nr r 2) (nl r 3))))) = some R) :
    ∀ (e k : Nat), k + e = c.length → (∀ j, j < k → kEq (Abs.rowAt c j) r = false) →
    ∃ m, goF E (callOf L29) F35 0 m P35_1 (M35_1 c.length p q d d.length i c.length c.length k c (nr r 0) (nr r 1) (nr r 2) (nl r 3)) = some R := by
  obtain ⟨m0, hm0⟩ := hR
  intro e
  induction e with
  | zero =>
    intro k hk h
    have hno : hasK c r = false := by
      cases hh : hasK c r with
      | false => rfl
      | true =>
        obtain ⟨x, hx, hx2⟩ := hasK_iff.1 hh
        obtain ⟨j, hj, rfl⟩ := List.getElem_of_mem hx
        have := h j (by omega)
        rw [rowAt_eq hj, kEq_false] at this
        exact absurd hx2 this
    rw [hno] at hm0
    refine ⟨m0 + 1, ?_⟩
    rw [e35_1, wrap64 (n := p + 1) (by omega) (by omega), nat_wrap (n := d.length) hd (by omega)]
    exact cf (decide_eq_false (by omega)) (ct (by rw [okM_mk hc2 h1 h2, vUpd_few hr]; rfl) hm0)
  | succ e ih =>
    intro k hk h
    have hk' : k < c.length := by omega
    have c1 := cmp_eq (Abs.rowAt c k) r
    cases hq : kEq (Abs.rowAt c k) r with
    | true =>
      have hyes : hasK c r = true := hasK_iff.2 ⟨_, rowAt_mem hk', kEq_iff.1 hq⟩
      rw [hyes] at hm0
      refine ⟨m0 + 1, ?_⟩
      rw [e35_1, Int.toNat_natCast, nat_wrap (n := d.length) hd (by omega)]
      exact ct (decide_eq_true (by omega)) (ct (inB_nat' hk') (ct (blt_mk hk') (ct (c1.trans hq) hm0)))
    | false =>
      obtain ⟨m, hm⟩ := ih (k + 1) (by omega) fun j hj => by
        by_cases hjk : j = k
        · subst hjk; exact hq
        · exact h j (by omega)
      refine ⟨m + 1, ?_⟩
      rw [e35_1, Int.toNat_natCast, nat_wrap (n := c.length) hk' (by omega)]
      exact ct (decide_eq_true (by omega)) (ct (inB_nat' hk') (ct (blt_mk hk') (cf (c1.trans hq) hm)))

def mr (r : List (List Cell) × Int × Int) : List AV × List Block := ([.one (.sl false 43 r.1), .one (.int .i64 r.2.1), .one (.int .i64 r.2.2)], [])

theorem l35 (d : List (List Cell)) (hd : d.length ≤ 500) (hu : d.all isUR = true) : ∀ (e i : Nat) (c : List (List Cell)) (p q : Int), i + e = d.length → Asc c → c.all isUR = true → c.length + e ≤ 1000 → 0 ≤ p ∧ p ≤ i → 0 ≤ q ∧ q ≤ i →
    ∃ m, goF E (callOf L29) F35 0 m P35_0 (M35_0 c.length p q d d.length i c) = some (mr (mrgSF c (d.drop i) p q))
  | 0, i, c, p, q, hi, h1, h2, h3, hp, hq => by
    refine ⟨1, ?_⟩
    rw [e35_0]
    have : d.drop i = [] := List.drop_eq_nil_of_le (by omega)
    rw [this]
    exact cf (decide_eq_false (by omega)) (ct (Nat.beq_refl _) rfl)
  | e + 1, i, c, p, q, hi, h1, h2, h3, hp, hq => by
    have hi' : i < d.length := by omega
    have hcnt := cntS_le c (nr (Abs.rowAt d i) 0)
    have hur := ur_at hu hi'
    by_cases hv : vUpdR (Abs.rowAt d i) = 0
    · have hv' : vUpd (nr (Abs.rowAt d i) 0) (nr (Abs.rowAt d i) 1) (nr (Abs.rowAt d i) 2) (nl (Abs.rowAt d i) 3) = 0 := hv
      by_cases hg : nr (Abs.rowAt d i) 1 > cntS c (nr (Abs.rowAt d i) 0) + 1
      · obtain ⟨m, hm⟩ := l35 d hd hu e (i + 1) c p (q + 1) (by omega) h1 h2 (by omega) (by omega) (by omega)
        refine ⟨m + 1, ?_⟩
        rw [e35_0, Int.toNat_natCast, nat_wrap (n := d.length) hi' (by omega), wrap64 (n := q + 1) (by omega) (by omega), wrap64 (n := cntS c _ + 1) (by omega) (by omega), drop_cons d i hi', mrgSF, if_pos (Or.inr hg)]
        exact ct (decide_eq_true (by omega)) (ct (inB_nat' hi') (cf (by simpa using hv') (ct (okMl_mk (by omega)) (ct (decide_eq_true hg) hm))))
      · have hstep : mrgSF c (d.drop i) p q = if hasK c (Abs.rowAt d i) = true then mrgSF c (d.drop (i + 1)) p q else mrgSF (insK c (Abs.rowAt d i)) (d.drop (i + 1)) (p + 1) q := by
          rw [drop_cons d i hi', mrgSF, if_neg (fun h => h.elim (fun h => h hv) hg)]
        have hR : ∃ m, goF E (callOf L29) F35 0 m P35_0 (cond (hasK c (Abs.rowAt d i)) (M35_0 c.length p q d d.length ((i + 1 : Nat) : Int) c) (M35_0 (c.length + 1) (p + 1) q d d.length ((i + 1 : Nat) : Int) (insA c (urow (nr (Abs.rowAt d i) 0) (nr (Abs.rowAt d i) 1) (nr (Abs.rowAt d i) 2) (nl (Abs.rowAt d i) 3))))) = some (mr (mrgSF c (d.drop i) p q)) := by
          cases hk : hasK c (Abs.rowAt d i) with
          | true =>
            rw [hstep, if_pos hk]
            exact l35 d hd hu e (i + 1) c p q (by omega) h1 h2 (by omega) (by omega) (by omega)
          | false =>
            have hl : (insK c (Abs.rowAt d i)).length = c.length + 1 := insK_len_new hk
            rw [hstep, if_neg (by rw [hk]; simp), hur, insA_eq hk]
            have := l35 d hd hu e (i + 1) (insK c (Abs.rowAt d i)) (p + 1) q (by omega) (asc_insK h1) (all_insK h2 (all_at hu hi')) (by omega) (by omega) (by omega)
            rw [hl] at this
            exact this
        obtain ⟨m, hm⟩ := in35 c d p q i hi' (by omega) (Abs.rowAt d i) hv h1 h2 (by omega) hp _ (by omega) hR c.length 0 (by omega) fun j hj => by omega
        refine ⟨m + 1, ?_⟩
        rw [e35_0, Int.toNat_natCast, wrap64 (n := cntS c _ + 1) (by omega) (by omega)]
        exact ct (decide_eq_true (by omega)) (ct (inB_nat' hi') (cf (by simpa using hv') (ct (okMl_mk (by omega)) (cf (decide_eq_false hg) hm))))
    · have hv' : vUpd (nr (Abs.rowAt d i) 0) (nr (Abs.rowAt d i) 1) (nr (Abs.rowAt d i) 2) (nl (Abs.rowAt d i) 3) ≠ 0 := hv
      obtain ⟨m, hm⟩ := l35 d hd hu e (i + 1) c p (q + 1) (by omega) h1 h2 (by omega) (by omega) (by omega)
      refine ⟨m + 1, ?_⟩
      rw [e35_0, Int.toNat_natCast, nat_wrap (n := d.length) hi' (by omega), wrap64 (n := q + 1) (by omega) (by omega), drop_cons d i hi', mrgSF, if_pos (Or.inl hv)]
      exact ct (decide_eq_true (by omega)) (ct (inB_nat' hi') (ct (by simpa using hv') hm))

theorem k35 (c d : List (List Cell)) (h : okMg c d = true) : ∃ m, runF E (callOf L29) m 35 [.one (.sl false 43 c), .one (.sl false 43 d)] [] = some ([.one (.sl false 43 (mrgS c d).1), .one (.int .i64 (mrgS c d).2.1), .one (.int .i64 (mrgS c d).2.2)], []) := by
  unfold okMg at h
  simp only [Bool.and_eq_true, decide_eq_true_eq] at h
  obtain ⟨h, hl⟩ := h
  obtain ⟨h1, h2, h3, h4⟩ := okCl_of h.1
  have h5 : d.all isUR = true := by
    have := h.2
    unfold okCf at this
    simp only [Bool.and_eq_true] at this
    exact this.2
  obtain ⟨m, hm⟩ := l35 d hl.2 h5 d.length 0 c 0 0 (by omega) h2 h3 (by omega) (by omega) (by omega)
  refine ⟨m + 1, ?_⟩
  rw [e35]
  exact ct (okCln_of_cl h.1) hm

/- THE REFERENCE -/

theorem l18 (c : List (List Cell)) (hc : c.length ≤ 1000) : ∀ (d i : Nat) (v : List (List Cell)), i + d = c.length → v.length ≤ i → CntOk v 1000000 →
    ∃ m, goF E (callOf L32) F18 0 m P18_0 (M18_0 c v i) = some ([.one (.sl false 65 (vecRF v (c.drop i)))], [])
  | 0, i, v, hi, hv, ho => by
    refine ⟨1, ?_⟩
    have : c.drop i = [] := List.drop_eq_nil_of_le (by omega)
    rw [e18_0, this]
    exact cf (decide_eq_false (by omega)) rfl
  | d + 1, i, v, hi, hv, ho => by
    have hi' : i < c.length := by omega
    have hw := withV_ok ho (nr (Abs.rowAt c i) 0) (cntV v (nr (Abs.rowAt c i) 0) + 1)
    obtain ⟨m, hm⟩ := l18 c hc d (i + 1) (withV v (nr (Abs.rowAt c i) 0) (cntV v (nr (Abs.rowAt c i) 0) + 1)) (by omega) (by omega) hw.1
    refine ⟨m + 1, ?_⟩
    have e1 : vecRF v (c.drop i) = vecRF (withV v (nr (Abs.rowAt c i) 0) (cntV v (nr (Abs.rowAt c i) 0) + 1)) (c.drop (i + 1)) := by rw [drop_cons c i hi']; rfl
    have hcnt := cntV_bound ho (nr (Abs.rowAt c i) 0)
    rw [e18_0, Int.toNat_natCast, e1, nat_wrap (n := c.length) hi' (by omega), wrap64 (n := cntV v (nr (Abs.rowAt c i) 0) + 1) (by omega) (by omega)]
    have hev : okEv v = true := by
      unfold okEv
      simp only [Bool.and_eq_true, decide_eq_true_eq]
      exact ⟨by omega, cnt_en ho⟩
    exact ct (decide_eq_true (by omega)) (ct (inB_nat' hi') (ct (inB_nat' hi') (ct (okLn_mk (by omega)) (ct hev hm))))

theorem k18 (c : List (List Cell)) (h : okLn c = true) : ∃ m, runF E (callOf L32) m 18 [.one (.sl false 43 c)] [] = some ([.one (.sl false 65 (vecR c))], []) := by
  obtain ⟨m, hm⟩ := l18 c (okLn_of h) c.length 0 [] (by omega) (by simp) (fun e he => by cases he)
  exact ⟨m + 1, by rw [e18]; exact hm⟩

theorem l50 (c : List (List Cell)) (a n t : Int) (p : List (List Cell)) (hc : c.length ≤ 1000) : ∀ (d i : Nat), i + d = c.length →
    ∃ m, goF E (callOf L18) F50 0 m P50_0 (M50_0 c i a n t p) = some ([.one (.bool (hasK (c.drop i) (urow a n t p)))], [])
  | 0, i, hi => by
    refine ⟨1, ?_⟩
    rw [e50_0]
    have : c.drop i = [] := List.drop_eq_nil_of_le (by omega)
    rw [this]
    exact cf (decide_eq_false (by omega)) rfl
  | d + 1, i, hi => by
    have hi' : i < c.length := by omega
    obtain ⟨m, hm⟩ := l50 c a n t p hc d (i + 1) (by omega)
    refine ⟨m + 1, ?_⟩
    have c1 := cmp_eq (Abs.rowAt c i) (urow a n t p)
    rw [e50_0, Int.toNat_natCast, drop_cons c i hi', hasK_cons, nat_wrap (n := c.length) hi' (by omega), hm]
    refine ct (decide_eq_true (by omega)) (ct (inB_nat' hi') ?_)
    cases hk : kEq (Abs.rowAt c i) (urow a n t p)
    · exact cf (c1.trans hk) rfl
    · exact ct (c1.trans hk) rfl

theorem k50 (c : List (List Cell)) (a n t : Int) (p : List (List Cell)) (h : okLn c = true) : ∃ m, runF E (callOf L18) m 50 [.one (.sl false 43 c), .agg [.int .i64 a, .int .i64 n, .int .i64 t, .sl false 61 p]] [] = some ([.one (.bool (hasK c (urow a n t p)))], []) := by
  obtain ⟨m, hm⟩ := l50 c a n t p (okLn_of h) c.length 0 (by omega)
  exact ⟨m + 1, by rw [e50]; exact hm⟩

theorem l20 (c d : List (List Cell)) (hs : okLn c = true) (hd : d.length ≤ 1000) : ∀ (e i : Nat), i + e = d.length →
    ∃ m, goF E (callOf L50) F20 0 m P20_0 (M20_0 c d i) = some ([.one (.bool (contK c (d.drop i)))], [])
  | 0, i, hi => by
    refine ⟨1, ?_⟩
    rw [e20_0]
    have : d.drop i = [] := List.drop_eq_nil_of_le (by omega)
    rw [this]
    exact cf (decide_eq_false (by omega)) rfl
  | e + 1, i, hi => by
    have hi' : i < d.length := by omega
    obtain ⟨m, hm⟩ := l20 c d hs hd e (i + 1) (by omega)
    refine ⟨m + 1, ?_⟩
    rw [e20_0, Int.toNat_natCast, drop_cons d i hi', hasK_urow]
    refine ct (decide_eq_true (by omega)) (ct (inB_nat' hi') (ct hs ?_))
    unfold contK at hm ⊢
    rw [List.all_cons, nat_wrap (n := d.length) hi' (by omega), hm]
    cases hasK c (Abs.rowAt d i) <;> rfl

theorem k20 (c d : List (List Cell)) (h : (okLn c && okLn d) = true) : ∃ m, runF E (callOf L50) m 20 [.one (.sl false 43 c), .one (.sl false 43 d)] [] = some ([.one (.bool (contK c d))], []) := by
  simp only [Bool.and_eq_true] at h
  obtain ⟨m, hm⟩ := l20 c d h.1 (okLn_of h.2) d.length 0 (by omega)
  exact ⟨m + 1, by rw [e20]; exact hm⟩

theorem rw_at {c : List (List Cell)} (h : c.all isUR = true) {i : Nat} (hi : i < c.length) : [Cell.int .i64 (nr (Abs.rowAt c i) 0), Cell.int .i64 (nr (Abs.rowAt c i) 1), Cell.int .i64 (nr (Abs.rowAt c i) 2), Cell.slice 61 (nl (Abs.rowAt c i) 3)] = Abs.rowAt c i := ur_at h hi

theorem okCf_of {c : List (List Cell)} (h : okCf c = true) : c.length ≤ 1000 ∧ c.all isUR = true := by
  unfold okCf at h
  simp only [Bool.and_eq_true] at h
  exact ⟨okLn_of h.1, h.2⟩

theorem l24 (c d : List (List Cell)) (hc : c.length ≤ 1000) (hd : d.length ≤ 1000) (pc : c.all isUR = true) (pd : d.all isUR = true) : ∀ (n i k : Nat) (v : List (List Cell)), (c.length - i) + (d.length - k) < n → i ≤ c.length → k ≤ d.length → v.length ≤ i + k →
    ∃ m, goF E (callOf L20) F24 0 m P24_0 (M24_0 c d v i k) = some ([.one (.sl false 43 (v ++ mrgF n (c.drop i) (d.drop k)))], []) := by
  intro n
  induction n with
  | zero => intro i k v he; omega
  | succ n ih =>
    intro i k v he hi hk hv
    by_cases h1 : i < c.length
    · have hw1 : IntKind.wrap .i64 ((i : Int) + 1) = ((i + 1 : Nat) : Int) := nat_wrap h1 (by omega)
      have hi1 := inB_nat' h1
      have ec := drop_cons c i h1
      have hf : ∀ r : List Cell, fits (v.length + [r].length) = true := fun r => fits_of (by simp; omega)
      by_cases h2 : k < d.length
      · -- both
        have ed := drop_cons d k h2
        have c1 := cmp_lt (Abs.rowAt c i) (Abs.rowAt d k)
        have c2 := cmp_gt (Abs.rowAt c i) (Abs.rowAt d k)
        have hw2 : IntKind.wrap .i64 ((k : Int) + 1) = ((k + 1 : Nat) : Int) := nat_wrap h2 (by omega)
        have hi2 := inB_nat' h2
        have n1 : ¬ ((k : Int) = (d.length : Int)) := by omega
        have n2 : ¬ ((i : Int) = (c.length : Int)) := by omega
        by_cases hl : kLt (Abs.rowAt c i) (Abs.rowAt d k) = true
        · obtain ⟨m, hm⟩ := ih (i + 1) k (v ++ [Abs.rowAt c i]) (by omega) (by omega) hk (by simp; omega)
          refine ⟨m + 1, ?_⟩
          rw [e24_0, Int.toNat_natCast, Int.toNat_natCast, rw_at pc h1, hw1, hw2]
          refine ct (decide_eq_true (by omega)) (cf (beq_eq_false_iff_ne.2 n1) (ct (decide_eq_true (by omega)) (ct hi1 (ct hi2 (ct (c1.trans hl) (ct hi1 (ct (hf _) ?_)))))))
          rw [hm, ec, ed, mrgF, if_pos hl]
          simp
        · have hl' : kLt (Abs.rowAt c i) (Abs.rowAt d k) = false := by simpa using hl
          by_cases hg : kLt (Abs.rowAt d k) (Abs.rowAt c i) = true
          · obtain ⟨m, hm⟩ := ih i (k + 1) (v ++ [Abs.rowAt d k]) (by omega) hi (by omega) (by simp; omega)
            refine ⟨m + 1, ?_⟩
            rw [e24_0, Int.toNat_natCast, Int.toNat_natCast, rw_at pd h2, hw1, hw2]
            refine ct (decide_eq_true (by omega)) (cf (beq_eq_false_iff_ne.2 n1) (ct (decide_eq_true (by omega)) (ct hi1 (ct hi2 (cf (c1.trans hl') (cf (beq_eq_false_iff_ne.2 n2) (ct hi1 (ct hi2 (ct (c2.trans hg) (ct hi2 (ct (hf _) ?_)))))))))))
            rw [hm, ec, ed, mrgF, if_neg hl, if_pos hg]
            simp
          · have hg' : kLt (Abs.rowAt d k) (Abs.rowAt c i) = false := by simpa using hg
            obtain ⟨m, hm⟩ := ih (i + 1) (k + 1) (v ++ [Abs.rowAt c i]) (by omega) (by omega) (by omega) (by simp; omega)
            refine ⟨m + 1, ?_⟩
            rw [e24_0, Int.toNat_natCast, Int.toNat_natCast, rw_at pc h1, hw1, hw2]
            refine ct (decide_eq_true (by omega)) (cf (beq_eq_false_iff_ne.2 n1) (ct (decide_eq_true (by omega)) (ct hi1 (ct hi2 (cf (c1.trans hl') (cf (beq_eq_false_iff_ne.2 n2) (ct hi1 (ct hi2 (cf (c2.trans hg') (ct hi1 (ct (hf _) ?_)))))))))))
            rw [hm, ec, ed, mrgF, if_neg hl, if_neg hg]
            simp
      · -- the second is at its end
        have hk' : k = d.length := by omega
        subst hk'
        obtain ⟨m, hm⟩ := ih (i + 1) d.length (v ++ [Abs.rowAt c i]) (by omega) (by omega) (by omega) (by simp; omega)
        refine ⟨m + 1, ?_⟩
        rw [e24_0, Int.toNat_natCast, rw_at pc h1, hw1]
        refine ct (decide_eq_true (by omega)) (ct (beq_iff_eq.2 rfl) (ct hi1 (ct (hf _) ?_)))
        rw [hm, List.drop_length, mrgF_nilr _ _ (by rw [List.length_drop]; omega), mrgF_nilr _ _ (by rw [List.length_drop]; omega), ec]
        simp
    · have hi' : i = c.length := by omega
      subst hi'
      by_cases h2 : k < d.length
      · obtain ⟨n, rfl⟩ : ∃ n2, n = n2 + 1 := ⟨n - 1, by omega⟩
        obtain ⟨m, hm⟩ := ih c.length (k + 1) (v ++ [Abs.rowAt d k]) (by omega) (by omega) (by omega) (by simp; omega)
        refine ⟨m + 1, ?_⟩
        rw [e24_0, Int.toNat_natCast, Int.toNat_natCast, rw_at pd h2, nat_wrap (n := d.length) h2 (by omega)]
        refine cf (decide_eq_false (by omega)) (ct (decide_eq_true (by omega)) (cf (beq_eq_false_iff_ne.2 (by omega)) (cf (decide_eq_false (by omega)) (ct (beq_iff_eq.2 rfl) (ct (inB_nat' h2) (ct (fits_of (by simp; omega)) ?_))))))
        rw [hm, List.drop_length, drop_cons d k h2]
        simp [mrgF]
      · have hk' : k = d.length := by omega
        subst hk'
        refine ⟨1, ?_⟩
        rw [e24_0, List.drop_length, List.drop_length]
        refine cf (decide_eq_false (by omega)) (cf (decide_eq_false (by omega)) ?_)
        simp [mrgF]

theorem k24 (c d : List (List Cell)) (h : (okCf c && okCf d) = true) : ∃ m, runF E (callOf L20) m 24 [.one (.sl false 43 c), .one (.sl false 43 d)] [] = some ([.one (.sl false 43 (mrgK c d))], []) := by
  simp only [Bool.and_eq_true] at h
  obtain ⟨h1, h2⟩ := okCf_of h.1
  obtain ⟨h3, h4⟩ := okCf_of h.2
  obtain ⟨m, hm⟩ := l24 c d h1 h3 h2 h4 (c.length + d.length + 1) 0 0 [] (by omega) (by omega) (by omega) (by simp)
  exact ⟨m + 1, by rw [e24]; exact hm⟩

theorem in44 (c d : List (List Cell)) (hd : d.length ≤ 1000) (hs : shortRows c = true) (i : Nat) (hi : i < c.length) (hc : c.length ≤ 1000) (R : Bool) (hR : ∃ m, goF E (callOf L24) F44 0 m P44_0 (M44_0 c d ((i + 1 : Nat) : Int)) = some ([.one (.bool R)], [])) : ∀ (e k : Nat), k + e = d.length →
    ∃ m, goF E (callOf L24) F44 0 m P44_1 (M44_1 c d i k) = some ([.one (.bool (((d.drop k).all fun q => !kEq (Abs.rowAt c i) q || eqUR (Abs.rowAt c i) q) && R))], [])
  | 0, k, hk => by
    obtain ⟨m, hm⟩ := hR
    refine ⟨m + 1, ?_⟩
    have : d.drop k = [] := List.drop_eq_nil_of_le (by omega)
    rw [e44_1, this, nat_wrap (n := c.length) hi (by omega), hm]
    exact cf (decide_eq_false (by omega)) rfl
  | e + 1, k, hk => by
    have hk' : k < d.length := by omega
    obtain ⟨m, hm⟩ := in44 c d hd hs i hi hc R hR e (k + 1) (by omega)
    refine ⟨m + 1, ?_⟩
    have c1 := cmp_eq (Abs.rowAt c i) (Abs.rowAt d k)
    rw [e44_1, Int.toNat_natCast, Int.toNat_natCast, drop_cons d k hk', List.all_cons, nat_wrap (n := d.length) hk' (by omega), hm]
    refine ct (decide_eq_true (by omega)) (ct (inB_nat' hi) (ct (inB_nat' hk') ?_))
    cases hq : kEq (Abs.rowAt c i) (Abs.rowAt d k) with
    | false =>
      refine cf (c1.trans hq) ?_
      rfl
    | true =>
      refine ct (c1.trans hq) (ct (inB_nat' hi) (ct (inB_nat' hk') (ct (decide_eq_true (short_at hs hi)) ?_)))
      show cond (!(eqUR (Abs.rowAt c i) (Abs.rowAt d k))) _ _ = _
      cases eqUR (Abs.rowAt c i) (Abs.rowAt d k) <;> rfl

theorem l44 (c d : List (List Cell)) (hc : c.length ≤ 1000) (hd : d.length ≤ 1000) (hs : shortRows c = true) : ∀ (e i : Nat), i + e = c.length →
    ∃ m, goF E (callOf L24) F44 0 m P44_0 (M44_0 c d i) = some ([.one (.bool (agrS (c.drop i) d))], [])
  | 0, i, hi => by
    refine ⟨1, ?_⟩
    have : c.drop i = [] := List.drop_eq_nil_of_le (by omega)
    rw [e44_0, this]
    exact cf (decide_eq_false (by omega)) rfl
  | e + 1, i, hi => by
    have hi' : i < c.length := by omega
    obtain ⟨m, hm⟩ := in44 c d hd hs i hi' hc _ (l44 c d hc hd hs e (i + 1) (by omega)) d.length 0 (by omega)
    refine ⟨m + 1, ?_⟩
    rw [e44_0, drop_cons c i hi']
    exact ct (decide_eq_true (by omega)) hm

theorem k44 (c d : List (List Cell)) (h : (okRows c && okLn d) = true) : ∃ m, runF E (callOf L24) m 44 [.one (.sl false 43 c), .one (.sl false 43 d)] [] = some ([.one (.bool (agrS c d))], []) := by
  simp only [Bool.and_eq_true] at h
  obtain ⟨h1, h2⟩ := okRows_of h.1
  obtain ⟨m, hm⟩ := l44 c d h1 (okLn_of h.2) h2 c.length 0 (by omega)
  exact ⟨m + 1, by rw [e44]; exact hm⟩

theorem rows_valid {c : List (List Cell)} (h : vSt c = 0) (hl : c.length ≤ 1000) : okRows c = true := by
  refine okRows_mk hl (List.all_eq_true.2 fun r hr => ?_)
  have := vUpd_ok (vStF_mem h r hr)
  unfold shortRow
  exact decide_eq_true (by omega)

theorem okSl_at {l : List (List Cell)} (h : okSl l = true) {i : Nat} (hi : i < l.length) : okLn (nl (Abs.rowAt l i) 0) = true := by
  unfold okSl at h
  simp only [Bool.and_eq_true] at h
  exact List.all_eq_true.1 h.2 _ (rowAt_mem hi)

theorem in15 (l : List (List Cell)) (ho : okSl l = true) (i : Nat) (hi : i < l.length) (hv : vSt (nl (Abs.rowAt l i) 0) = 0) (hl : l.length ≤ 1000) (R : Bool) (hR : ∃ m, goF E (callOf L44) F15 0 m P15_0 (M15_0 l ((i + 1 : Nat) : Int)) = some ([.one (.bool R)], [])) : ∀ (e k : Nat), k + e = i →
    ∃ m, goF E (callOf L44) F15 0 m P15_1 (M15_1 l i k) = some ([.one (.bool ((((l.take i).drop k).all fun y => agrS (nl (Abs.rowAt l i) 0) (nl y 0)) && R))], [])
  | 0, k, hk => by
    obtain ⟨m, hm⟩ := hR
    refine ⟨m + 1, ?_⟩
    have : (l.take i).drop k = [] := List.drop_eq_nil_of_le (by simp; omega)
    rw [e15_1, this, nat_wrap (n := l.length) hi (by omega), hm]
    exact cf (decide_eq_false (by omega)) rfl
  | e + 1, k, hk => by
    have hk' : k < (l.take i).length := by simp; omega
    obtain ⟨m, hm⟩ := in15 l ho i hi hv hl R hR e (k + 1) (by omega)
    refine ⟨m + 1, ?_⟩
    have h1 := rows_valid hv (okLn_of (okSl_at ho hi))
    have h3 := okSl_at ho (show k < l.length by omega)
    rw [e15_1, Int.toNat_natCast, Int.toNat_natCast, drop_cons (l.take i) k hk', List.all_cons, nat_wrap (n := l.length) (show k < l.length by omega) (by omega), hm, rowAt_take l i k (by omega)]
    refine ct (decide_eq_true (by omega)) (ct (inB_nat' hi) (ct (inB_nat' (by omega)) (ct (by rw [h1, h3]; rfl) ?_)))
    cases agrS (nl (Abs.rowAt l i) 0) (nl (Abs.rowAt l k) 0) <;> rfl

theorem l15 (l : List (List Cell)) (ho : okSl l = true) (hl : l.length ≤ 1000) : ∀ (e i : Nat), i + e = l.length →
    ∃ m, goF E (callOf L44) F15 0 m P15_0 (M15_0 l i) = some ([.one (.bool (validF (l.take i) (l.drop i)))], [])
  | 0, i, hi => by
    refine ⟨1, ?_⟩
    have : l.drop i = [] := List.drop_eq_nil_of_le (by omega)
    rw [e15_0, this]
    exact cf (decide_eq_false (by omega)) rfl
  | e + 1, i, hi => by
    have hi' : i < l.length := by omega
    by_cases hv : vSt (nl (Abs.rowAt l i) 0) = 0
    · obtain ⟨m, hm⟩ := in15 l ho i hi' hv hl _ (l15 l ho hl e (i + 1) (by omega)) i 0 (by omega)
      refine ⟨m + 1, ?_⟩
      rw [List.drop_zero] at hm
      rw [e15_0, Int.toNat_natCast, drop_cons l i hi', validF, ← take_snoc l i hi']
      refine ct (decide_eq_true (by omega)) (ct (inB_nat' hi') (ct (okSl_at ho hi') ?_))
      rw [decide_eq_true hv, Bool.true_and]
      exact cf (by simpa using hv) hm
    · refine ⟨1, ?_⟩
      rw [e15_0, Int.toNat_natCast, drop_cons l i hi', validF, ← take_snoc l i hi']
      refine ct (decide_eq_true (by omega)) (ct (inB_nat' hi') (ct (okSl_at ho hi') ?_))
      rw [decide_eq_false hv, Bool.false_and]
      exact ct (by simpa using hv) rfl

theorem k15 (l : List (List Cell)) (h : okSl l = true) : ∃ m, runF E (callOf L44) m 15 [.one (.sl false 23 l)] [] = some ([.one (.bool (validSs l))], []) := by
  have h' := h
  unfold okSl at h'
  simp only [Bool.and_eq_true, decide_eq_true_eq] at h'
  obtain ⟨m, hm⟩ := l15 l h h'.1 l.length 0 (by omega)
  exact ⟨m + 1, by rw [e15]; exact hm⟩



theorem k30 (c : List (List Cell)) (a n t : Int) (p : List (List Cell)) (h : okCf c = true) : runF E (callOf L15) 1 30 [.one (.sl false 43 c), .agg [.int .i64 a, .int .i64 n, .int .i64 t, .sl false 61 p]] [] = some ([.one (.sl false 43 (addR c a n t p).1), .one (.int .i64 (addR c a n t p).2)], []) := by
  obtain ⟨h1, h2⟩ := okCf_of h
  have hb := vecR_cnt c
  have hc := cntV_bound hb.1 a
  rw [e30]
  unfold addR
  by_cases hv : vUpd a n t p = 0
  · rw [if_neg (by simpa using hv)]
    refine cf (by simpa using hv) (ct (okLn_mk h1) ?_)
    by_cases hh : hasK c (urow a n t p) = true
    · rw [if_pos hh]
      exact ct hh rfl
    · rw [if_neg hh]
      refine cf (by simpa using hh) (ct (okLn_mk h1) (ct (okLn_mk (by omega)) ?_))
      rw [wrap64 (by omega) (by omega)]
      by_cases hn : n = cntV (vecR c) a + 1
      · rw [if_neg (by simpa using hn)]
        have hone : okCf [[Cell.int .i64 a, Cell.int .i64 n, Cell.int .i64 t, Cell.slice 61 p]] = true := by simp [okCf, okLn, isUR]
        exact cf (by simpa using hn) (ct (by rw [h, hone]; rfl) rfl)
      · rw [if_pos hn]
        exact ct (by simpa using hn) rfl
  · rw [if_pos hv]
    exact ct (by simpa using hv) rfl

theorem bey_cons (v : List (List Cell)) (r : List Cell) (c : List (List Cell)) : bey (r :: c) v = if cntV v (nr r 0) < nr r 1 then r :: bey c v else bey c v := by
  unfold bey
  rw [List.filter_cons]
  by_cases h : cntV v (nr r 0) < nr r 1
  · rw [if_pos (decide_eq_true h), if_pos h]
  · rw [if_neg (by simpa using h), if_neg h]

theorem beyRF_eq (v : List (List Cell)) (k : Int) : ∀ (c acc : List (List Cell)), (acc.length : Int) ≤ k ∨ acc = [] → beyRF v k acc c = (acc ++ (bey c v).take (k.toNat - acc.length), decide (k.toNat - acc.length < (bey c v).length))
  | [], acc, _ => by simp [beyRF, bey]
  | r :: c, acc, hk => by
    rw [beyRF, bey_cons]
    by_cases h : nr r 1 ≤ cntV v (nr r 0)
    · rw [if_pos h, if_neg (show ¬ cntV v (nr r 0) < nr r 1 by omega)]
      exact beyRF_eq v k c acc hk
    · rw [if_neg h, if_pos (show cntV v (nr r 0) < nr r 1 by omega)]
      by_cases h2 : (acc.length : Int) ≥ k
      · rw [if_pos h2]
        have : k.toNat - acc.length = 0 := by omega
        rw [this, List.take_zero, List.append_nil, decide_eq_true (by simp)]
      · rw [if_neg h2]
        have ih := beyRF_eq v k c (acc ++ [r]) (.inl (by simp; omega))
        rw [ih]
        have e : k.toNat - acc.length = (k.toNat - (acc ++ [r]).length) + 1 := by simp; omega
        rw [e, List.take_succ_cons, List.append_assoc, List.length_cons]
        simp

theorem beyS_R (c v : List (List Cell)) (k : Int) : beyR c v k = beyS c v k := by
  unfold beyR
  rw [beyRF_eq v k c [] (.inr rfl)]
  unfold beyS
  rw [List.nil_append, List.length_nil, Nat.sub_zero]
  by_cases h : k.toNat ≤ (bey c v).length
  · rw [Nat.min_eq_left h]
  · rw [Nat.min_eq_right (by omega), List.take_of_length_le (by omega), List.take_of_length_le (by omega)]
    congr 1
    rw [decide_eq_false (by omega), decide_eq_false (by omega)]

theorem l32 (c v : List (List Cell)) (k : Int) (hc : c.length ≤ 1000) (hv : okVec v = true) (hu : c.all isUR = true) (he : ∀ r ∈ c, okEf (nl r 3) = true) : ∀ (d i : Nat) (acc : List (List Cell)), i + d = c.length → acc.length ≤ i → (∀ r ∈ acc, okEf (nl r 3) = true) →
    ∃ m, goF E (callOf L35) F32 0 m P32_0 (M32_0 v k acc c c.length i) =
      some ([.one (.sl false 43 ((acc ++ bey (c.drop i) v).take (min k.toNat (acc ++ bey (c.drop i) v).length))), .one (.bool (decide (min k.toNat (acc ++ bey (c.drop i) v).length < (acc ++ bey (c.drop i) v).length)))], [])
  | 0, i, acc, hi, ha, hf => by
    refine ⟨1, ?_⟩
    have : c.drop i = [] := List.drop_eq_nil_of_le (by omega)
    have e1 : bey (c.drop i) v = [] := by rw [this]; rfl
    rw [e32_0, e1, List.append_nil]
    have e2 : (if (acc.length : Int) < (if 0 > k then 0 else k) then (acc.length : Int) else (if 0 > k then 0 else k)) = ((min k.toNat acc.length : Nat) : Int) := by
      split <;> split at * <;> omega
    rw [e2, Int.toNat_natCast, takeN_eq]
    refine cf (decide_eq_false (by omega)) (ct (inB_nat' (by omega)) (ct ?_ (ct (Nat.beq_refl _) ?_)))
    · unfold okCln
      rw [okLn_mk (by rw [List.length_take]; omega), Bool.true_and]
      exact List.all_eq_true.2 fun r hr => hf r (List.mem_of_mem_take hr)
    · have e3 : decide (((min k.toNat acc.length : Nat) : Int) < (acc.length : Int)) = decide (min k.toNat acc.length < acc.length) := decide_eq_decide.2 (by omega)
      rw [e3, Int.toNat_natCast]
  | d + 1, i, acc, hi, ha, hf => by
    have hi' : i < c.length := by omega
    by_cases h : cntV v (nr (Abs.rowAt c i) 0) < nr (Abs.rowAt c i) 1
    · obtain ⟨m, hm⟩ := l32 c v k hc hv hu he d (i + 1) (acc ++ [Abs.rowAt c i]) (by omega) (by simp; omega) fun r hr => by
        rcases List.mem_append.1 hr with hr | hr
        · exact hf r hr
        · rw [List.mem_singleton.1 hr]; exact he _ (rowAt_mem hi')
      refine ⟨m + 1, ?_⟩
      rw [e32_0, Int.toNat_natCast, nat_wrap (n := c.length) hi' (by omega), drop_cons c i hi', bey_cons, if_pos h, rw_at hu hi']
      rw [List.append_assoc] at hm
      exact ct (decide_eq_true (by omega)) (ct (inB_nat' hi') (ct hv (ct (decide_eq_true h) (ct (fits_of (by simp; omega)) hm))))
    · obtain ⟨m, hm⟩ := l32 c v k hc hv hu he d (i + 1) acc (by omega) (by omega) hf
      refine ⟨m + 1, ?_⟩
      rw [e32_0, Int.toNat_natCast, nat_wrap (n := c.length) hi' (by omega), drop_cons c i hi', bey_cons, if_neg h]
      exact ct (decide_eq_true (by omega)) (ct (inB_nat' hi') (ct hv (cf (decide_eq_false h) hm)))

theorem k32 (c v : List (List Cell)) (k : Int) (h : (okCl c && okVec v) = true) : ∃ m, runF E (callOf L35) m 32 [.one (.sl false 43 c), .one (.sl false 65 v), .one (.int .i64 k)] [] = some ([.one (.sl false 43 (beyS c v k).1), .one (.bool (beyS c v k).2)], []) := by
  simp only [Bool.and_eq_true] at h
  obtain ⟨h1, h2, h3, h4⟩ := okCl_of h.1
  obtain ⟨m, hm⟩ := l32 c v k h1 h.2 h3 h4 c.length 0 [] (by omega) (by simp) (fun r hr => by cases hr)
  exact ⟨m + 1, by rw [e32]; exact hm⟩

theorem l33 (c v : List (List Cell)) (k : Int) (hc : c.length ≤ 1000) (hv : okLn v = true) (hu : c.all isUR = true) : ∀ (d i : Nat) (acc : List (List Cell)), i + d = c.length → acc.length ≤ i →
    ∃ m, goF E (callOf L30) F33 0 m P33_0 (M33_0 c v k acc i) = some ([.one (.sl false 43 (beyRF v k acc (c.drop i)).1), .one (.bool (beyRF v k acc (c.drop i)).2)], [])
  | 0, i, acc, hi, ha => by
    refine ⟨1, ?_⟩
    have : c.drop i = [] := List.drop_eq_nil_of_le (by omega)
    rw [e33_0, this]
    exact cf (decide_eq_false (by omega)) rfl
  | d + 1, i, acc, hi, ha => by
    have hi' : i < c.length := by omega
    have hib := inB_nat' hi'
    by_cases h : nr (Abs.rowAt c i) 1 ≤ cntV v (nr (Abs.rowAt c i) 0)
    · obtain ⟨m, hm⟩ := l33 c v k hc hv hu d (i + 1) acc (by omega) (by omega)
      refine ⟨m + 1, ?_⟩
      rw [e33_0, Int.toNat_natCast, nat_wrap (n := c.length) hi' (by omega), drop_cons c i hi', beyRF, if_pos h]
      exact ct (decide_eq_true (by omega)) (ct hib (ct hib (ct hv (ct (decide_eq_true h) hm))))
    · by_cases h2 : (acc.length : Int) ≥ k
      · refine ⟨1, ?_⟩
        rw [e33_0, Int.toNat_natCast, drop_cons c i hi', beyRF, if_neg h, if_pos h2]
        exact ct (decide_eq_true (by omega)) (ct hib (ct hib (ct hv (cf (decide_eq_false h) (ct (decide_eq_true h2) rfl)))))
      · obtain ⟨m, hm⟩ := l33 c v k hc hv hu d (i + 1) (acc ++ [Abs.rowAt c i]) (by omega) (by simp; omega)
        refine ⟨m + 1, ?_⟩
        rw [e33_0, Int.toNat_natCast, nat_wrap (n := c.length) hi' (by omega), drop_cons c i hi', beyRF, if_neg h, if_neg h2, rw_at hu hi']
        exact ct (decide_eq_true (by omega)) (ct hib (ct hib (ct hv (cf (decide_eq_false h) (cf (decide_eq_false h2) (ct hib (ct (fits_of (by simp; omega)) hm)))))))

theorem k33 (c v : List (List Cell)) (k : Int) (h : (okCf c && okLn v) = true) : ∃ m, runF E (callOf L30) m 33 [.one (.sl false 43 c), .one (.sl false 65 v), .one (.int .i64 k)] [] = some ([.one (.sl false 43 (beyR c v k).1), .one (.bool (beyR c v k).2)], []) := by
  simp only [Bool.and_eq_true] at h
  obtain ⟨h1, h2⟩ := okCf_of h.1
  obtain ⟨m, hm⟩ := l33 c v k h1 h.2 h2 c.length 0 [] (by omega) (by simp)
  exact ⟨m + 1, by rw [e33]; exact hm⟩

theorem l26 (c : List (List Cell)) (k : Int) (hc : c.length ≤ 1000) (hu : c.all isUR = true) : ∀ (d i : Nat) (acc : List (List Cell)), i + d = c.length → acc.length ≤ i →
    ∃ m, goF E (callOf L33) F26 0 m P26_0 (M26_0 c k acc i) = some ([.one (.sl false 43 (acc ++ gSome (c.drop i) k))], [])
  | 0, i, acc, hi, ha => by
    refine ⟨1, ?_⟩
    have : c.drop i = [] := List.drop_eq_nil_of_le (by omega)
    rw [e26_0, this]
    refine cf (decide_eq_false (by omega)) ?_
    simp [gSome]
  | d + 1, i, acc, hi, ha => by
    have hi' : i < c.length := by omega
    have hib := inB_nat' hi'
    have hg : (decide (2 ≤ 9) && decide (IntKind.wrap .i64 (nr (Abs.rowAt c i) 0 - 101) ≤ 9223372036854775807)) = true := by
      rw [IntKind.wrap_i64]
      simp only [Bool.and_eq_true, decide_eq_true_eq]
      omega
    by_cases h : nr (Abs.rowAt c i) 1 ≤ gDigit k 9 (IntKind.wrap .i64 (nr (Abs.rowAt c i) 0 - 101))
    · obtain ⟨m, hm⟩ := l26 c k hc hu d (i + 1) (acc ++ [Abs.rowAt c i]) (by omega) (by simp; omega)
      refine ⟨m + 1, ?_⟩
      have e1 : gSome (c.drop i) k = Abs.rowAt c i :: gSome (c.drop (i + 1)) k := by
        rw [drop_cons c i hi']
        unfold gSome
        rw [List.filter_cons, if_pos (decide_eq_true h)]
      rw [e26_0, Int.toNat_natCast, nat_wrap (n := c.length) hi' (by omega), e1, rw_at hu hi']
      rw [List.append_assoc] at hm
      exact ct (decide_eq_true (by omega)) (ct hib (ct hib (ct hg (ct (decide_eq_true h) (ct hib (ct (fits_of (by simp; omega)) hm))))))
    · obtain ⟨m, hm⟩ := l26 c k hc hu d (i + 1) acc (by omega) (by omega)
      refine ⟨m + 1, ?_⟩
      have e1 : gSome (c.drop i) k = gSome (c.drop (i + 1)) k := by
        rw [drop_cons c i hi']
        unfold gSome
        rw [List.filter_cons, if_neg (by simpa using h)]
      rw [e26_0, Int.toNat_natCast, nat_wrap (n := c.length) hi' (by omega), e1]
      exact ct (decide_eq_true (by omega)) (ct hib (ct hib (ct hg (cf (decide_eq_false h) hm))))

theorem k26 (c : List (List Cell)) (k : Int) (h : okCf c = true) : ∃ m, runF E (callOf L33) m 26 [.one (.sl false 43 c), .one (.int .i64 k)] [] = some ([.one (.sl false 43 (gSome c k))], []) := by
  obtain ⟨h1, h2⟩ := okCf_of h
  obtain ⟨m, hm⟩ := l26 c k h1 h2 c.length 0 [] (by omega) (by simp)
  exact ⟨m + 1, by rw [e26]; exact hm⟩

theorem k11 (c : List (List Cell)) (h : c.length < 9223372036854775808) : runF E (callOf L26) 1 11 [.one (.sl false 43 c)] [] = some ([.one (.bool (decide (c.length ≤ 60)))], []) := by
  rw [e11]
  congr 4
  simp only [AV.one.injEq, AC.bool.injEq]
  exact decide_eq_decide.2 (by omega)


end Go.Proofs.Ytkfniijfenkocaa
