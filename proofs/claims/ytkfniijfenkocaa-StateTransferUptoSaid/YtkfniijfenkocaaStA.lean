/-
  The contracts over lists of updates: validity, equality, bytes.
-/
import Derived.Test.YtkfniijfenkocaaVecP
namespace Go.Proofs.Ytkfniijfenkocaa
open Go.Abs

theorem okRows_of {c : List (List Cell)} (h : okRows c = true) : c.length ≤ 1000 ∧ shortRows c = true := by
  unfold okRows at h
  simp only [Bool.and_eq_true, decide_eq_true_eq] at h
  exact h

theorem okRows_mk {c : List (List Cell)} (h1 : c.length ≤ 1000) (h2 : shortRows c = true) : okRows c = true := by
  unfold okRows
  simp only [Bool.and_eq_true, decide_eq_true_eq]
  exact ⟨h1, h2⟩

theorem short_at {c : List (List Cell)} (h : shortRows c = true) {i : Nat} (hi : i < c.length) : (nl (Abs.rowAt c i) 3).length < 4611686018427387904 := by
  have := all_at h hi
  unfold shortRow at this
  simpa using this

theorem vStF_first (q q' : List Cell) (l : List (List Cell)) : vStF true q l = vStF true q' l := by
  cases l <;> simp [vStF]

theorem vSt_step (first : Bool) (q r : List Cell) (rs : List (List Cell)) : vStF first q (r :: rs) =
    if vUpdR r ≠ 0 then vUpdR r
    else if first = false ∧ cmpU (nr r 0) (nr r 1) (nr q 0) (nr q 1) ≤ 0 then 7
    else if 1 < nr r 1 ∧ (first = true ∨ nr q 0 ≠ nr r 0 ∨ nr q 1 ≠ nr r 1 - 1) then 8
    else vStF false r rs := rfl

theorem l13 (c : List (List Cell)) (hc : c.length ≤ 1000) : ∀ (d i : Nat), i + d = c.length →
    ∃ m, goF E (callOf L75) F13 0 m P13_0 (M13_0 c c c.length i) = some ([.one (.int .i64 (vStF (decide (i = 0)) (Abs.rowAt c (i - 1)) (c.drop i)))], [])
  | 0, i, hi => by
    refine ⟨1, ?_⟩
    rw [e13_0]
    have : c.drop i = [] := List.drop_eq_nil_of_le (by omega)
    rw [this, vStF]
    exact cf (decide_eq_false (by omega)) rfl
  | d + 1, i, hi => by
    have hi' : i < c.length := by omega
    obtain ⟨m, hm⟩ := l13 c hc d (i + 1) (by omega)
    rw [decide_eq_false (by omega : ¬ i + 1 = 0), Nat.add_sub_cancel] at hm
    refine ⟨m + 1, ?_⟩
    rw [e13_0, drop_cons c i hi', vSt_step, Int.toNat_natCast, nat_wrap (n := c.length) hi' (by omega), hm]
    refine ct (decide_eq_true (by omega)) (ct (inB_nat' hi') ?_)
    generalize hr : Abs.rowAt c i = r
    show cond (vUpdR r != 0) (some ([AV.one (AC.int .i64 (vUpdR r))], ([] : List Block))) _ = _
    by_cases hv : vUpdR r = 0
    · rw [if_neg (by simpa using hv)]
      refine cf (by simpa using hv) ?_
      have hn := vUpd_ok hv
      by_cases h0 : i = 0
      · subst h0
        refine cf (decide_eq_false (by simp)) ?_
        rw [decide_eq_true rfl, if_neg (by simp)]
        by_cases h1 : 1 < nr r 1
        · rw [if_pos ⟨h1, Or.inl rfl⟩]
          exact ct (decide_eq_true h1) (ct (by simp) rfl)
        · rw [if_neg (fun h => h1 h.1)]
          exact cf (decide_eq_false h1) rfl
      · rw [wrap64 (n := (i : Int) - 1) (by omega) (by omega), show ((i : Int) - 1).toNat = i - 1 by omega, wrap64 (n := nr r 1 - 1) (by omega) (by omega)]
        rw [decide_eq_false h0]
        generalize Abs.rowAt c (i - 1) = q
        refine ct (decide_eq_true (by omega)) (ct (inB_of (by omega) (by omega)) ?_)
        by_cases h2 : cmpU (nr r 0) (nr r 1) (nr q 0) (nr q 1) ≤ 0
        · rw [if_pos ⟨rfl, h2⟩]
          exact ct (decide_eq_true h2) rfl
        · rw [if_neg (fun h => h2 h.2)]
          refine cf (decide_eq_false h2) ?_
          by_cases h1 : 1 < nr r 1
          · refine ct (decide_eq_true h1) (cf (beq_eq_false_iff_ne.2 (by omega)) (ct (inB_of (by omega) (by omega)) ?_))
            by_cases h3 : nr q 0 = nr r 0
            · refine cf (bne_eq_false_iff_eq.2 h3) (ct (inB_of (by omega) (by omega)) ?_)
              by_cases h4 : nr q 1 = nr r 1 - 1
              · rw [if_neg (by simp [h3, h4])]
                exact cf (bne_eq_false_iff_eq.2 h4) rfl
              · rw [if_pos ⟨h1, Or.inr (Or.inr h4)⟩]
                exact ct (bne_iff_ne.2 h4) rfl
            · rw [if_pos ⟨h1, Or.inr (Or.inl h3)⟩]
              exact ct (bne_iff_ne.2 h3) rfl
          · rw [if_neg (fun h => h1 h.1)]
            exact cf (decide_eq_false h1) rfl
    · rw [if_pos hv]
      exact ct (by simpa using hv) rfl

theorem k13 (c : List (List Cell)) (h : okLn c = true) : ∃ m, runF E (callOf L75) m 13 [.one (.sl false 43 c)] [] = some ([.one (.int .i64 (vSt c))], []) := by
  have h1 := okLn_of h
  obtain ⟨m, hm⟩ := l13 c h1 c.length 0 (by omega)
  refine ⟨m + 1, ?_⟩
  rw [e13]
  refine Eq.trans hm ?_
  rw [decide_eq_true rfl, List.drop_zero, vStF_first _ []]
  rfl

theorem cmpU_swap (a n b m : Int) : (cmpU b m a n ≥ 0) ↔ (cmpU a n b m ≤ 0) := by
  have := cmpU_cases a n b m
  have := cmpU_cases b m a n
  omega

theorem l14 (c : List (List Cell)) (hc : c.length ≤ 1000) : ∀ (d i : Nat), i + d = c.length →
    ∃ m, goF E (callOf L13) F14 0 m P14_0 (M14_0 c i) = some ([.one (.int .i64 (vStF (decide (i = 0)) (Abs.rowAt c (i - 1)) (c.drop i)))], [])
  | 0, i, hi => by
    refine ⟨1, ?_⟩
    rw [e14_0]
    have : c.drop i = [] := List.drop_eq_nil_of_le (by omega)
    rw [this, vStF]
    exact cf (decide_eq_false (by omega)) rfl
  | d + 1, i, hi => by
    have hi' : i < c.length := by omega
    obtain ⟨m, hm⟩ := l14 c hc d (i + 1) (by omega)
    rw [decide_eq_false (by omega : ¬ i + 1 = 0), Nat.add_sub_cancel] at hm
    have hib := inB_nat' hi'
    refine ⟨m + 1, ?_⟩
    rw [e14_0, drop_cons c i hi', vSt_step, Int.toNat_natCast, nat_wrap (n := c.length) hi' (by omega), hm]
    refine ct (decide_eq_true (by omega)) (ct hib ?_)
    generalize hr : Abs.rowAt c i = r
    show cond (vUpdR r != 0) (some ([AV.one (AC.int .i64 (vUpdR r))], ([] : List Block))) _ = _
    by_cases hv : vUpdR r = 0
    · rw [if_neg (by simpa using hv)]
      refine cf (by simpa using hv) ?_
      have hn := vUpd_ok hv
      by_cases h0 : i = 0
      · subst h0
        refine cf (decide_eq_false (by simp)) (ct hib ?_)
        rw [decide_eq_true rfl, if_neg (by simp)]
        by_cases h1 : 1 < nr r 1
        · rw [if_pos ⟨h1, Or.inl rfl⟩]
          exact ct (decide_eq_true h1) (ct (by simp) rfl)
        · rw [if_neg (fun h => h1 h.1)]
          exact cf (decide_eq_false h1) rfl
      · rw [wrap64 (n := (i : Int) - 1) (by omega) (by omega), show ((i : Int) - 1).toNat = i - 1 by omega, wrap64 (n := nr r 1 - 1) (by omega) (by omega)]
        rw [decide_eq_false h0]
        generalize Abs.rowAt c (i - 1) = q
        have hsw := cmpU_swap (nr r 0) (nr r 1) (nr q 0) (nr q 1)
        refine ct (decide_eq_true (by omega)) (ct (inB_of (by omega) (by omega)) (ct hib ?_))
        by_cases h2 : cmpU (nr r 0) (nr r 1) (nr q 0) (nr q 1) ≤ 0
        · rw [if_pos ⟨rfl, h2⟩]
          exact ct (decide_eq_true (hsw.2 h2)) rfl
        · rw [if_neg (fun h => h2 h.2)]
          refine cf (decide_eq_false (fun h => h2 (hsw.1 h))) (ct hib ?_)
          by_cases h1 : 1 < nr r 1
          · refine ct (decide_eq_true h1) (cf (beq_eq_false_iff_ne.2 (by omega)) (ct (inB_of (by omega) (by omega)) (ct hib ?_)))
            by_cases h3 : nr q 0 = nr r 0
            · refine cf (bne_eq_false_iff_eq.2 h3) (ct (inB_of (by omega) (by omega)) (ct hib ?_))
              by_cases h4 : nr q 1 = nr r 1 - 1
              · rw [if_neg (by simp [h3, h4])]
                exact cf (bne_eq_false_iff_eq.2 h4) rfl
              · rw [if_pos ⟨h1, Or.inr (Or.inr h4)⟩]
                exact ct (bne_iff_ne.2 h4) rfl
            · rw [if_pos ⟨h1, Or.inr (Or.inl h3)⟩]
              exact ct (bne_iff_ne.2 h3) rfl
          · rw [if_neg (fun h => h1 h.1)]
            exact cf (decide_eq_false h1) rfl
    · rw [if_pos hv]
      exact ct (by simpa using hv) rfl

theorem k14 (c : List (List Cell)) (h : okLn c = true) : ∃ m, runF E (callOf L13) m 14 [.one (.sl false 43 c)] [] = some ([.one (.int .i64 (vSt c))], []) := by
  have h1 := okLn_of h
  obtain ⟨m, hm⟩ := l14 c h1 c.length 0 (by omega)
  refine ⟨m + 1, ?_⟩
  rw [e14]
  refine Eq.trans hm ?_
  rw [decide_eq_true rfl, List.drop_zero, vStF_first _ []]
  rfl

theorem l22 (c d : List (List Cell)) (hc : c.length ≤ 1000) (hs : shortRows c = true) (hd : c.length = d.length) : ∀ (e i : Nat), i + e = c.length →
    ∃ m, goF E (callOf L14) F22 0 m P22_0 (M22_0 c d i) = some ([.one (.bool (eqStF (c.drop i) (d.drop i)))], [])
  | 0, i, hi => by
    refine ⟨1, ?_⟩
    rw [e22_0]
    have : c.drop i = [] := List.drop_eq_nil_of_le (by omega)
    rw [this, eqStF]
    exact cf (decide_eq_false (by omega)) rfl
  | e + 1, i, hi => by
    have hi' : i < c.length := by omega
    obtain ⟨m, hm⟩ := l22 c d hc hs hd e (i + 1) (by omega)
    refine ⟨m + 1, ?_⟩
    rw [e22_0]
    rw [drop_cons c i hi', eqStF, Int.toNat_natCast, nat_wrap (n := c.length) hi' (by omega), hm, rowAt_drop, List.drop_drop, Nat.add_zero]
    refine ct (decide_eq_true (by omega)) (ct (inB_nat' hi') (ct (inB_nat' (by omega)) (ct (decide_eq_true (short_at hs hi')) ?_)))
    show cond (!(eqUR (Abs.rowAt c i) (Abs.rowAt d i))) _ _ = _
    generalize eqUR (Abs.rowAt c i) (Abs.rowAt d i) = b1
    cases b1 <;> rfl

theorem k22 (c d : List (List Cell)) (h : okRows c = true) : ∃ m, runF E (callOf L14) m 22 [.one (.sl false 43 c), .one (.sl false 43 d)] [] = some ([.one (.bool (eqSt c d))], []) := by
  obtain ⟨h1, h2⟩ := okRows_of h
  unfold eqSt
  by_cases hd : c.length = d.length
  · obtain ⟨m, hm⟩ := l22 c d h1 h2 hd c.length 0 (by omega)
    refine ⟨m + 1, ?_⟩
    rw [e22, show (0 : Int) = ((0 : Nat) : Int) from rfl, hm, decide_eq_true hd]
    exact cf (bne_eq_false_iff_eq.2 (by omega)) rfl
  · refine ⟨1, ?_⟩
    rw [e22, decide_eq_false hd]
    exact ct (bne_iff_ne.2 (by omega)) rfl


theorem okSApp_of {x c : List (List Cell)} (h : okSApp x c = true) : x.length ≤ 100000 ∧ c.length ≤ 100 ∧ c.all fewE = true := by
  unfold okSApp at h
  simp only [Bool.and_eq_true, decide_eq_true_eq] at h
  exact h

theorem few_at {c : List (List Cell)} (h : c.all fewE = true) {i : Nat} (hi : i < c.length) : (nl (Abs.rowAt c i) 3).length ≤ 4 ∧ (nl (Abs.rowAt c i) 3).all shortR = true := by
  have := all_at h hi
  unfold fewE at this
  simpa only [Bool.and_eq_true, decide_eq_true_eq] using this

theorem okApp_mk {x l : List (List Cell)} (h1 : x.length ≤ 1000000) (h2 : l.length ≤ 100) (h3 : l.all shortR = true) : okApp x l = true := by
  unfold okApp
  rw [h3, decide_eq_true h1, decide_eq_true h2]
  rfl

theorem encR_le (r : List Cell) (h : fewE r = true) : (encR r).length ≤ 1640 := by
  unfold fewE at h
  simp only [Bool.and_eq_true, decide_eq_true_eq] at h
  have := encU_len (nr r 0) (nr r 1) (nr r 2) h.2
  unfold encR
  omega

theorem l36 (x c : List (List Cell)) (hx : x.length ≤ 100000) (hc : c.length ≤ 100) (hf : c.all fewE = true) : ∀ (d i : Nat) (y : List (List Cell)), i + d = c.length → y.length ≤ 20 + 1640 * i →
    ∃ m, goF E (callOf L22) F36 0 m P36_0 (M36_0 x y c c.length i) = some ([.one (.sl true 5 (x ++ (y ++ encAll (c.drop i))))], [])
  | 0, i, y, hi, hy => by
    refine ⟨1, ?_⟩
    rw [e36_0]
    have : c.drop i = [] := List.drop_eq_nil_of_le (by omega)
    simp only [takeN_eq, Int.toNat_natCast, List.take_length, this, encAll, List.append_nil]
    exact cf (decide_eq_false (by omega)) (ct (inB_nat' (by omega)) (ct (by simp) (ct (fits_of (by omega)) rfl)))
  | d + 1, i, y, hi, hy => by
    have hi' : i < c.length := by omega
    have hfew := few_at hf hi'
    have hle := encR_le (Abs.rowAt c i) (all_at hf hi')
    obtain ⟨m, hm⟩ := l36 x c hx hc hf d (i + 1) (y ++ encR (Abs.rowAt c i)) (by omega) (by simp; omega)
    refine ⟨m + 1, ?_⟩
    rw [e36_0, Int.toNat_natCast]
    refine ct (decide_eq_true (by omega)) (ct (inB_nat' hi') (ct (okApp_mk (by simp) (by omega) hfew.2) (ct (fits_of (by have := hle; unfold encR at this; omega)) ?_)))
    rw [nat_wrap (n := c.length) hi' (by omega)]
    refine Eq.trans hm ?_
    rw [drop_cons c i hi', encAll]
    simp only [List.append_assoc]

theorem l36c (x c : List (List Cell)) (hx : x.length ≤ 100000) (hc : c.length ≤ 100) (hf : c.all fewE = true) : ∀ (d i : Nat) (y : List (List Cell)), i + d = c.length → y.length ≤ 20 + 1640 * i →
    ∃ m, goF E (callOf L22) F36 0 m P36_0_c1 (M36_0_c1 x y c c.length i) = some ([.one (.sl true 5 (x ++ (y ++ encAll (c.drop i))))], [])
  | 0, i, y, hi, hy => by
    refine ⟨1, ?_⟩
    rw [e36_0_c1]
    have : c.drop i = [] := List.drop_eq_nil_of_le (by omega)
    simp only [takeN_eq, Int.toNat_natCast, List.take_length, this, encAll, List.append_nil]
    exact cf (decide_eq_false (by omega)) (ct (inB_nat' (by omega)) (ct (by simp) (ct (fits_of (by omega)) rfl)))
  | d + 1, i, y, hi, hy => by
    have hi' : i < c.length := by omega
    have hfew := few_at hf hi'
    have hle := encR_le (Abs.rowAt c i) (all_at hf hi')
    obtain ⟨m, hm⟩ := l36c x c hx hc hf d (i + 1) (y ++ encR (Abs.rowAt c i)) (by omega) (by simp; omega)
    refine ⟨m + 1, ?_⟩
    rw [e36_0_c1, Int.toNat_natCast]
    refine ct (decide_eq_true (by omega)) (ct (inB_nat' hi') (ct (okApp_mk (by simp) (by omega) hfew.2) (ct (fits_of (by have := hle; unfold encR at this; omega)) ?_)))
    rw [nat_wrap (n := c.length) hi' (by omega)]
    refine Eq.trans hm ?_
    rw [drop_cons c i hi', encAll]
    simp only [List.append_assoc]

theorem l38 (c : List (List Cell)) (hc : c.length ≤ 100) (hf : c.all fewE = true) : ∀ (d i : Nat) (y : List (List Cell)), i + d = c.length → y.length ≤ 100020 + 1640 * i →
    ∃ m, goF E (callOf L36) F38 0 m P38_0 (M38_0 y c i) = some ([.one (.sl false 5 (y ++ encAll (c.drop i)))], [])
  | 0, i, y, hi, hy => by
    refine ⟨1, ?_⟩
    rw [e38_0]
    have : c.drop i = [] := List.drop_eq_nil_of_le (by omega)
    rw [this, encAll, List.append_nil]
    exact cf (decide_eq_false (by omega)) rfl
  | d + 1, i, y, hi, hy => by
    have hi' : i < c.length := by omega
    have hfew := few_at hf hi'
    have hle := encR_le (Abs.rowAt c i) (all_at hf hi')
    obtain ⟨m, hm⟩ := l38 c hc hf d (i + 1) (y ++ encR (Abs.rowAt c i)) (by omega) (by simp; omega)
    refine ⟨m + 1, ?_⟩
    rw [e38_0, Int.toNat_natCast]
    refine ct (decide_eq_true (by omega)) (ct (inB_nat' hi') (ct (okApp_mk (by omega) (by omega) hfew.2) ?_))
    rw [nat_wrap (n := c.length) hi' (by omega)]
    refine Eq.trans hm ?_
    rw [drop_cons c i hi', encAll, List.append_assoc]

theorem l38c (c : List (List Cell)) (hc : c.length ≤ 100) (hf : c.all fewE = true) : ∀ (d i : Nat) (y : List (List Cell)), i + d = c.length → y.length ≤ 100020 + 1640 * i →
    ∃ m, goF E (callOf L36) F38 0 m P38_0_c1 (M38_0_c1 y c i) = some ([.one (.sl false 5 (y ++ encAll (c.drop i)))], [])
  | 0, i, y, hi, hy => by
    refine ⟨1, ?_⟩
    rw [e38_0_c1]
    have : c.drop i = [] := List.drop_eq_nil_of_le (by omega)
    rw [this, encAll, List.append_nil]
    exact cf (decide_eq_false (by omega)) rfl
  | d + 1, i, y, hi, hy => by
    have hi' : i < c.length := by omega
    have hfew := few_at hf hi'
    have hle := encR_le (Abs.rowAt c i) (all_at hf hi')
    obtain ⟨m, hm⟩ := l38c c hc hf d (i + 1) (y ++ encR (Abs.rowAt c i)) (by omega) (by simp; omega)
    refine ⟨m + 1, ?_⟩
    rw [e38_0_c1, Int.toNat_natCast]
    refine ct (decide_eq_true (by omega)) (ct (inB_nat' hi') (ct (okApp_mk (by omega) (by omega) hfew.2) ?_))
    rw [nat_wrap (n := c.length) hi' (by omega)]
    refine Eq.trans hm ?_
    rw [drop_cons c i hi', encAll, List.append_assoc]

theorem k36 (x c : List (List Cell)) (h : okSApp x c = true) : ∃ m, runF E (callOf L22) m 36 [.one (.sl false 5 x), .one (.sl false 43 c)] [] = some ([.one (.sl true 5 (x ++ encS c))], []) := by
  obtain ⟨h1, h2, h3⟩ := okSApp_of h
  have hu := uenc_len (c.length : Int)
  obtain ⟨m, hm⟩ := l36 x c h1 h2 h3 c.length 0 (uenc c.length) (by omega) (by omega)
  refine ⟨m + 1, ?_⟩
  rw [e36, wrapu (n := (c.length : Int)) (by omega) (by omega)]
  exact ct (okU_mk (by omega) (by omega)) hm

theorem k36c (c : List (List Cell)) (h : okSApp [] c = true) : ∃ m, runF E (callOf L22) m 36 [.one .nils, .one (.sl false 43 c)] [] = some ([.one (.sl true 5 (encS c))], []) := by
  obtain ⟨h1, h2, h3⟩ := okSApp_of h
  have hu := uenc_len (c.length : Int)
  obtain ⟨m, hm⟩ := l36c [] c h1 h2 h3 c.length 0 (uenc c.length) (by omega) (by omega)
  refine ⟨m + 1, ?_⟩
  rw [e36_c1, wrapu (n := (c.length : Int)) (by omega) (by omega)]
  refine ct (okU_mk (by omega) (by omega)) ?_
  refine Eq.trans hm ?_
  rw [List.nil_append, List.drop_zero]
  rfl



theorem k38 (x c : List (List Cell)) (h : okSApp x c = true) : ∃ m, runF E (callOf L36) m 38 [.one (.sl false 5 x), .one (.sl false 43 c)] [] = some ([.one (.sl false 5 (x ++ encS c))], []) := by
  obtain ⟨h1, h2, h3⟩ := okSApp_of h
  have hu := uenc_len (c.length : Int)
  obtain ⟨m, hm⟩ := l38 c h2 h3 c.length 0 (x ++ uenc c.length) (by omega) (by simp; omega)
  refine ⟨m + 1, ?_⟩
  rw [e38, enc_one c.length (by omega)]
  refine ct (okNums_mk (by omega) (by simp)) (Eq.trans hm ?_)
  rw [List.drop_zero, List.append_assoc]
  rfl

theorem k38c (c : List (List Cell)) (h : okSApp [] c = true) : ∃ m, runF E (callOf L36) m 38 [.one .nils, .one (.sl false 43 c)] [] = some ([.one (.sl false 5 (encS c))], []) := by
  obtain ⟨h1, h2, h3⟩ := okSApp_of h
  have hu := uenc_len (c.length : Int)
  obtain ⟨m, hm⟩ := l38c c h2 h3 c.length 0 ([] ++ uenc c.length) (by omega) (by simp; omega)
  refine ⟨m + 1, ?_⟩
  rw [e38_c1, enc_one c.length (by omega)]
  refine ct (okNums_mk (by simp) (by simp)) (Eq.trans hm ?_)
  rw [List.drop_zero, List.nil_append]
  rfl

theorem decU_bound {x : List (List Cell)} (hx : okRd x = true) : 0 ≤ (decU x).2.2.2.2.1 ∧ (decU x).2.2.2.2.1 ≤ x.length := by
  unfold decU
  split
  · simp
  · rename_i h0
    have hb := rread_bound hx (c := 4) (by simpa using h0)
    split
    · simp
    · unfold finU
      split
      · simp
      · rename_i h1
        split
        · simp
        · have := decEs_bound x hx _ _ [] hb.1 hb.2.1 (by simpa using h1)
          simp only
          omega

theorem decUs_bound (x : List (List Cell)) (hx : okRd x = true) : ∀ (k : Nat) (o : Int) (acc : List (List Cell)), 0 ≤ o → o ≤ x.length → (decUs x k o acc).2.2 = 0 →
    (decUs x k o acc).1.length = acc.length + k ∧ (shortRows acc = true → shortRows (decUs x k o acc).1 = true)
  | 0, o, acc, _, _, _ => ⟨rfl, id⟩
  | k + 1, o, acc, h0, h1, h => by
    simp only [decUs] at h ⊢
    have hb := decU_bound (okRd_drop hx o.toNat)
    rw [List.length_drop] at hb
    have hl := decU_len _ (okRd_drop hx o.toNat)
    by_cases he : (decU (x.drop o.toNat)).2.2.2.2.2 = 0
    · rw [if_neg (by simpa using he)] at h ⊢
      have := decUs_bound x hx k _ (acc ++ [mkU (decU (x.drop o.toNat))]) (by omega) (by omega) h
      simp only [List.length_append, List.length_cons, List.length_nil] at this
      refine ⟨by omega, fun hs => this.2 ?_⟩
      unfold shortRows at hs ⊢
      rw [List.all_append, hs]
      have e : nl (mkU (decU (x.drop o.toNat))) 3 = (decU (x.drop o.toNat)).2.2.2.1 := rfl
      simp only [List.all_cons, List.all_nil, Bool.and_true, Bool.true_and, shortRow, e, decide_eq_true_eq]
      omega
    · rw [if_pos he] at h
      exact absurd h he

/-- the results of a decoder as the code hands them back -/
def dc (r : List (List Cell) × Int × Int) : List AV × List Block := ([.one (.sl true 43 r.1), .one (.int .i64 r.2.1), .one (.int .i64 r.2.2)], [])

theorem fin_tree {acc : List (List Cell)} {o : Int} (ho : okLn acc = true) :
    (cond (okLn acc) (cond ((vSt acc) != 0) (some ([AV.one (.sl true 43 ([] : List (List Cell))), .one (.int .i64 0), .one (.int .i64 (vSt acc))], ([] : List Block)))
      (some ([.one (.sl true 43 acc), .one (.int .i64 o), .one (.int .i64 0)], []))) none) = some (dc (finS (acc, o, 0))) := by
  refine ct ho ?_
  unfold finS
  rw [if_neg (by simp)]
  by_cases hv : vSt acc = 0
  · rw [if_neg (by simpa using hv)]
    exact cf (by simpa using hv) rfl
  · rw [if_pos hv]
    exact ct (by simpa using hv) rfl

theorem snoc_short {acc : List (List Cell)} {x : List (List Cell)} (hs : shortRows acc = true) (hx : okRd x = true) : shortRows (acc ++ [mkU (decU x)]) = true := by
  have hl := decU_len x hx
  unfold shortRows at hs ⊢
  rw [List.all_append, hs]
  have e : nl (mkU (decU x)) 3 = (decU x).2.2.2.1 := rfl
  simp only [List.all_cons, List.all_nil, Bool.and_true, Bool.true_and, shortRow, e, decide_eq_true_eq]
  omega

theorem l37 (x : List (List Cell)) (hx : okRd x = true) (k : Int) (hk : k ≤ 48) : ∀ (d i : Nat) (o : Int) (acc : List (List Cell)), i + d = k.toNat → 0 ≤ o → o ≤ x.length → acc.length = i →
    ∃ m, goF E (callOf L38) F37 0 m P37_0 (M37_0 x o acc k i) = some (dc (finS (decUs x d o acc))) := by
  intro d
  induction d with
  | zero =>
    intro i o acc hi h0 h1 ha
    refine ⟨1, ?_⟩
    rw [e37_0]
    exact cf (decide_eq_false (by omega)) (fin_tree (okLn_mk (by omega)))
  | succ d ih =>
    intro i o acc hi h0 h1 ha
    have h4 := okRd_drop hx o.toNat
    have hb := decU_bound h4
    rw [List.length_drop] at hb
    have hl := (okRd_of hx).2
    by_cases he : (decU (x.drop o.toNat)).2.2.2.2.2 = 0
    · obtain ⟨m, hm⟩ := ih (i + 1) (o + (decU (x.drop o.toNat)).2.2.2.2.1) (acc ++ [mkU (decU (x.drop o.toNat))]) (by omega) (by omega) (by omega) (by simp; omega)
      refine ⟨m + 1, ?_⟩
      rw [e37_0, dropN_eq]
      refine ct (decide_eq_true (by omega)) (ct (inB_of h0 (by omega)) (ct h4 (cf (by simpa using he) (ct (fits_of (by simp; omega)) ?_))))
      rw [wrap64 (by omega) (by omega), wrapu (by omega) (by omega), show (i : Int) + 1 = ((i + 1 : Nat) : Int) by omega]
      simp only [decUs, if_neg (show ¬ (decU (x.drop o.toNat)).2.2.2.2.2 ≠ 0 by simpa using he)]
      exact hm
    · refine ⟨1, ?_⟩
      rw [e37_0, dropN_eq]
      refine ct (decide_eq_true (by omega)) (ct (inB_of h0 (by omega)) (ct h4 (ct (by simpa using he) ?_)))
      simp only [decUs, if_pos he, finS]
      rfl

theorem k37 (x : List (List Cell)) (hx : okRd x = true) : ∃ m, runF E (callOf L38) m 37 [.one (.sl false 5 x)] [] = some (dc (decS x)) := by
  unfold decS
  by_cases he : (udec x).2.2 = 0
  · rw [if_neg (by simpa using he)]
    have hb := udec_bound (okRd_of hx).1 he
    by_cases h9 : 48 < (udec x).1
    · refine ⟨1, ?_⟩
      rw [e37, if_pos h9]
      exact ct hx (cf (by simpa using he) (ct (decide_eq_true h9) rfl))
    · obtain ⟨m, hm⟩ := l37 x hx (udec x).1 (by omega) (udec x).1.toNat 0 (udec x).2.1 [] (by omega) (by omega) (by omega) rfl
      refine ⟨m + 1, ?_⟩
      rw [e37, if_neg h9]
      exact ct hx (cf (by simpa using he) (cf (decide_eq_false h9) hm))
  · refine ⟨1, ?_⟩
    rw [e37, if_pos he]
    exact ct hx (ct (by simpa using he) rfl)

theorem l65 (x : List (List Cell)) (hx : okRd x = true) (k : Int) (hk : k ≤ 48) (hk0 : 0 ≤ k) : ∀ (d i : Nat) (o : Int) (acc : List (List Cell)), i + d = k.toNat → 0 ≤ o → o ≤ x.length → acc.length = i →
    ∃ m, goF E (callOf L37) F65 0 m P65_0 (M65_0 x k o acc i) = some (dc (decUs x d o acc)) := by
  intro d
  induction d with
  | zero =>
    intro i o acc hi h0 h1 ha
    refine ⟨1, ?_⟩
    rw [e65_0]
    exact cf (decide_eq_false (by omega)) rfl
  | succ d ih =>
    intro i o acc hi h0 h1 ha
    have h4 := okRd_drop hx o.toNat
    have hb := decU_bound h4
    rw [List.length_drop] at hb
    have hl := (okRd_of hx).2
    by_cases he : (decU (x.drop o.toNat)).2.2.2.2.2 = 0
    · obtain ⟨m, hm⟩ := ih (i + 1) (o + (decU (x.drop o.toNat)).2.2.2.2.1) (acc ++ [mkU (decU (x.drop o.toNat))]) (by omega) (by omega) (by omega) (by simp; omega)
      refine ⟨m + 1, ?_⟩
      rw [e65_0, dropN_eq]
      refine ct (decide_eq_true (by omega)) (ct (inB_of h0 (by omega)) (ct h4 (cf (by simpa using he) (ct (fits_of (by simp; omega)) ?_))))
      rw [wrap64 (by omega) (by omega), nat_wrap (n := 48) (by omega) (by omega)]
      simp only [decUs, if_neg (show ¬ (decU (x.drop o.toNat)).2.2.2.2.2 ≠ 0 by simpa using he)]
      exact hm
    · refine ⟨1, ?_⟩
      rw [e65_0, dropN_eq]
      refine ct (decide_eq_true (by omega)) (ct (inB_of h0 (by omega)) (ct h4 (ct (by simpa using he) ?_)))
      simp only [decUs, if_pos he]
      rfl

theorem rnum2_pos {x : List (List Cell)} (hx : okRd x = true) (h : (rnum2 x).2.2 = 0) : 0 ≤ (rnum2 x).1 ∧ 0 ≤ (rnum2 x).2.1 ∧ (rnum2 x).2.1 ≤ x.length := by
  unfold rnum2 at h ⊢
  split
  · rename_i he
    rw [if_pos he] at h
    exact absurd h he
  · rename_i he
    rw [if_neg he] at h
    have hb := udec_bound (okRd_of hx).1 (by simpa using he)
    split
    · rename_i h2
      rw [if_pos h2] at h
      simp at h
    · exact ⟨by omega, by omega, by omega⟩

theorem k65 (x : List (List Cell)) (hx : okRd x = true) : ∃ m, runF E (callOf L37) m 65 [.one (.sl false 5 x)] [] = some (dc (decL x)) := by
  unfold decL
  by_cases he : (rnum2 x).2.2 = 0
  · rw [if_neg (by simpa using he)]
    have hb := rnum2_pos hx he
    by_cases h9 : 48 < (rnum2 x).1
    · refine ⟨1, ?_⟩
      rw [e65, if_pos h9]
      exact ct hx (cf (by simpa using he) (ct (decide_eq_true h9) rfl))
    · obtain ⟨m, hm⟩ := l65 x hx (rnum2 x).1 (by omega) (by omega) (rnum2 x).1.toNat 0 (rnum2 x).2.1 [] (by omega) (by omega) (by omega) rfl
      refine ⟨m + 1, ?_⟩
      rw [e65, if_neg h9]
      exact ct hx (cf (by simpa using he) (cf (decide_eq_false h9) hm))
  · refine ⟨1, ?_⟩
    rw [e65, if_pos he]
    exact ct hx (ct (by simpa using he) rfl)

theorem finL_tree (x : List (List Cell)) (hx : okRd x = true) (ho : (decL x).2.2 = 0 → okLn (decL x).1 = true) :
    (cond (okRd x)
      (cond ((decL x).2.2 != 0)
       (some ([AV.one (.sl true 43 ([] : List (List Cell))), .one (.int .i64 0), .one (.int .i64 (decL x).2.2)], ([] : List Block)))
       (cond (okLn (decL x).1)
        (cond ((vSt (decL x).1) != 0)
         (some ([.one (.sl true 43 ([] : List (List Cell))), .one (.int .i64 0), .one (.int .i64 (vSt (decL x).1))], []))
         (some ([.one (.sl true 43 (decL x).1), .one (.int .i64 (decL x).2.1), .one (.int .i64 0)], [])))
        none))
      none) = some (dc (finS (decL x))) := by
  refine ct hx ?_
  unfold finS
  by_cases he : (decL x).2.2 = 0
  · rw [if_neg (by simpa using he)]
    refine cf (by simpa using he) (ct (ho he) ?_)
    by_cases hv : vSt (decL x).1 = 0
    · rw [if_neg (by simpa using hv)]
      refine cf (by simpa using hv) ?_
      unfold dc
      rw [he]
    · rw [if_pos hv]
      exact ct (by simpa using hv) rfl
  · rw [if_pos he]
    exact ct (by simpa using he) rfl

theorem decL_len {x : List (List Cell)} (hx : okRd x = true) (h : (decL x).2.2 = 0) : okLn (decL x).1 = true := by
  unfold decL at h ⊢
  split
  · rfl
  · rename_i he
    rw [if_neg he] at h
    have hb := rnum2_pos hx (by simpa using he)
    split
    · rfl
    · rename_i h2
      rw [if_neg h2] at h
      have := decUs_bound x hx (rnum2 x).1.toNat (rnum2 x).2.1 [] (by omega) (by omega) h
      exact okLn_mk (by rw [this.1, List.length_nil]; omega)

theorem decL_S (x : List (List Cell)) : ((udec x).2.2 = 0 → ¬ 48 < (udec x).1) → finS (decL x) = decS x := by
  intro h
  by_cases he : (udec x).2.2 = 0
  · have h2 := h he
    have hr : rnum2 x = udec x := by
      unfold rnum2
      rw [if_neg (by simpa using he), if_neg (by omega)]
    unfold decS decL
    rw [hr, if_neg (show ¬ (udec x).2.2 ≠ 0 by simpa using he), if_neg h2, if_neg (show ¬ (udec x).2.2 ≠ 0 by simpa using he), if_neg h2]
  · have hr : (rnum2 x).2.2 = (udec x).2.2 := by
      unfold rnum2
      rw [if_pos he]
    unfold decS decL
    rw [hr, if_pos he, if_pos he]
    unfold finS
    rw [if_pos he]

theorem k39 (x : List (List Cell)) (hx : okRd x = true) : runF E (callOf L65) 1 39 [.one (.sl false 5 x)] [] = some (dc (decS x)) := by
  rw [e39]
  refine ct hx ?_
  by_cases he : (udec x).2.2 = 0
  · refine ct (by simpa using he) ?_
    by_cases h9 : 48 < (udec x).1
    · refine ct (decide_eq_true h9) ?_
      unfold decS
      rw [if_neg (by simpa using he), if_pos h9]
      rfl
    · refine cf (decide_eq_false h9) ?_
      rw [← decL_S x (fun _ => h9)]
      exact finL_tree x hx (decL_len hx)
  · refine cf (by simpa using he) ?_
    rw [← decL_S x (fun h => absurd h he)]
    exact finL_tree x hx (decL_len hx)

theorem eqStF_refl : ∀ c : List (List Cell), eqStF c c = true
  | [] => rfl
  | r :: c => by
    rw [eqStF]
    show (eqUR r r && eqStF c c) = true
    rw [eqStF_refl c]
    simp [eqUR, eqU_refl]

theorem eqSt_refl (c : List (List Cell)) : eqSt c c = true := by
  simp [eqSt, eqStF_refl]

theorem decS_rows {x : List (List Cell)} (hx : okRd x = true) : okRows (decS x).1 = true := by
  unfold decS
  split
  · rfl
  · rename_i he
    have hb := udec_bound (okRd_of hx).1 (by simpa using he)
    split
    · rfl
    · unfold finS
      split
      · rfl
      · rename_i h1
        split
        · rfl
        · have := decUs_bound x hx (udec x).1.toNat (udec x).2.1 [] (by omega) (by omega) (by simpa using h1)
          exact okRows_mk (by rw [this.1, List.length_nil]; omega) (this.2 rfl)

def reU (r : List Cell) : List Cell := [.int .i64 (nr r 0), .int .i64 (nr r 1), .int .i64 (nr r 2), .slice 61 ((nl r 3).map reEff)]

theorem vUpdR_re (r : List Cell) : vUpdR (reU r) = vUpdR r := vUpd_re _ _ _ _

theorem vStF_re : ∀ (l : List (List Cell)) (first : Bool) (q : List Cell), vStF first (reU q) (l.map reU) = vStF first q l
  | [], _, _ => rfl
  | r :: l, first, q => by
    rw [List.map_cons, vSt_step, vSt_step, vUpdR_re, vStF_re l false r]
    rfl

theorem vSt_re (l : List (List Cell)) : vSt (l.map reU) = vSt l := by
  unfold vSt
  rw [vStF_first [] (reU [])]
  exact vStF_re l true []

theorem eqStF_re : ∀ (l : List (List Cell)), eqStF l (l.map reU) = true
  | [] => rfl
  | r :: l => by
    rw [List.map_cons, eqStF]
    show (eqUR r (reU r) && eqStF l (l.map reU)) = true
    rw [eqStF_re l, Bool.and_true]
    exact eqU_re (nr r 0) (nr r 1) (nr r 2) (nl r 3)

theorem vStF_mem : ∀ {l : List (List Cell)} {first : Bool} {q : List Cell}, vStF first q l = 0 → ∀ r ∈ l, vUpdR r = 0
  | [], _, _, _, r, hr => by cases hr
  | p :: l, first, q, h, r, hr => by
    rw [vSt_step] at h
    by_cases h0 : vUpdR p = 0
    · rw [if_neg (by simpa using h0)] at h
      split at h
      · simp at h
      · split at h
        · simp at h
        · rcases List.mem_cons.1 hr with rfl | hr
          · exact h0
          · exact vStF_mem h r hr
    · rw [if_pos h0] at h
      exact absurd h h0

theorem decUs_enc (rest : List (List Cell)) : ∀ (l pre acc : List (List Cell)), (∀ r ∈ l, okUpd r) →
    decUs (pre ++ (encAll l ++ rest)) l.length pre.length acc = (acc ++ l.map reU, ((pre.length + (encAll l).length : Nat) : Int), 0)
  | [], pre, acc, _ => by simp [decUs, encAll]
  | r :: l, pre, acc, h => by
    have ih := decUs_enc rest l (pre ++ encR r) (acc ++ [reU r]) (fun q hq => h q (List.mem_cons_of_mem _ hq))
    have e : (pre ++ (encAll (r :: l) ++ rest)).drop ((pre.length : Nat) : Int).toNat = encR r ++ (encAll l ++ rest) := by
      rw [Int.toNat_natCast, List.drop_left, encAll, List.append_assoc]
    have hd : decU (encR r ++ (encAll l ++ rest)) = (nr r 0, nr r 1, nr r 2, (nl r 3).map reEff, ((encR r).length : Int), 0) := decU_enc (h r List.mem_cons_self).1 (h r List.mem_cons_self).2 _
    rw [List.length_cons, decUs, e, hd, if_neg (by simp)]
    simp only
    have e2 : pre ++ (encAll (r :: l) ++ rest) = (pre ++ encR r) ++ (encAll l ++ rest) := by
      rw [encAll]; simp only [List.append_assoc]
    rw [e2, ← Int.natCast_add, ← List.length_append]
    refine Eq.trans ih ?_
    simp only [List.map_cons, List.append_assoc, List.length_append, encAll, List.cons_append, List.nil_append]
    congr 3
    omega

theorem vStF_count : ∀ (l : List (List Cell)) (q : List Cell), 101 ≤ nr q 0 → nr q 0 ≤ 106 → 1 ≤ nr q 1 → nr q 1 ≤ 8 → vStF false q l = 0 → (l.length : Int) ≤ 8 * (106 - nr q 0) + (8 - nr q 1)
  | [], q, h0, h1, h2, h3, _ => by simp; omega
  | r :: l, q, h0, h1, h2, h3, h => by
    rw [vSt_step] at h
    by_cases hv : vUpdR r = 0
    · rw [if_neg (by simpa using hv)] at h
      have hn := vUpd_ok hv
      split at h
      · simp at h
      · rename_i h4
        split at h
        · simp at h
        · rename_i h5
          have ih := vStF_count l r (by omega) (by omega) (by omega) (by omega) h
          have hcmp := cmpU_cases (nr r 0) (nr r 1) (nr q 0) (nr q 1)
          have hgt : ¬ cmpU (nr r 0) (nr r 1) (nr q 0) (nr q 1) ≤ 0 := fun hh => h4 ⟨rfl, hh⟩
          have h6 : ¬ (1 < nr r 1 ∧ (nr q 0 ≠ nr r 0 ∨ nr q 1 ≠ nr r 1 - 1)) := fun hh => h5 ⟨hh.1, Or.inr hh.2⟩
          rw [List.length_cons]
          omega
    · rw [if_pos hv] at h
      exact absurd h hv

theorem vSt_nine {c : List (List Cell)} (h : vSt c = 0) : c.length ≤ 48 := by
  cases c with
  | nil => simp
  | cons r l =>
    unfold vSt at h
    have hm := vStF_mem h r List.mem_cons_self
    have hn := vUpd_ok hm
    rw [vSt_step, if_neg (by simpa using hm), if_neg (by simp)] at h
    split at h
    · simp at h
    · have := vStF_count l r (by omega) (by omega) (by omega) (by omega) h
      rw [List.length_cons]
      omega

theorem st_ok {c : List (List Cell)} (h : vSt c = 0) (hn : ∀ r ∈ c, (nl r 3).all (fun e => okI (nr e 3)) = true) : ∀ r ∈ c, okUpd r := fun r hr => ⟨vStF_mem h r hr, hn r hr⟩

theorem few_ok {c : List (List Cell)} (h : ∀ r ∈ c, okUpd r) : c.all fewE = true := List.all_eq_true.2 fun r hr => by
  have h1 := h r hr
  have h2 := vUpd_ok h1.1
  unfold fewE
  rw [good_short h1.1 h1.2, Bool.and_true]
  exact decide_eq_true (by omega)

/-- a valid state is read back, whatever follows -/
theorem decS_enc {c : List (List Cell)} (h : vSt c = 0) (hn : ∀ r ∈ c, okUpd r) (rest : List (List Cell)) : decS (encS c ++ rest) = (c.map reU, ((encS c).length : Int), 0) := by
  have h9 := vSt_nine h
  have hu := udec_uenc (v := (c.length : Int)) (by omega) (by omega) (encAll c ++ rest)
  have e : encS c ++ rest = uenc c.length ++ (encAll c ++ rest) := by rw [encS, List.append_assoc]
  unfold decS
  rw [e, hu, if_neg (by simp)]
  simp only
  rw [if_neg (by omega), Int.toNat_natCast, decUs_enc rest c (uenc c.length) [] hn]
  unfold finS
  simp only
  rw [if_neg (by simp), List.nil_append, vSt_re, h, if_neg (by simp), encS, List.length_append]


end Go.Proofs.Ytkfniijfenkocaa
