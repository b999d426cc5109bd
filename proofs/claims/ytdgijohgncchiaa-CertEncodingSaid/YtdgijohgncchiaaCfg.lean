/-
  The contracts of the functions of configurations.
-/
import Derived.Test.YtdgijohgncchiaaPureP
namespace Go.Proofs.Ytdgijohgncchiaa
open Go.Abs

theorem l72c : ∀ (k : Nat) (v : Int) (acc : List (List Cell)), 0 ≤ v → v < 128 ^ k → v < 18446744073709551616 → 1 ≤ k → acc.length + k ≤ 1000 →
    ∃ m, goF E (callOf L40) F72 0 m P72_0_c1 (M72_0_c1 [] v acc) = some ([.one (.sl true 5 (acc ++ uencF k v))], [])
  | 0, _, _, _, _, _, h, _ => by omega
  | k + 1, v, acc, h0, h1, h2, _, hl => by
    by_cases hs : v < 128
    · refine ⟨1, ?_⟩
      rw [e72_0_c1]
      refine cf (decide_eq_false (by omega)) (ct (fits_of (by simp; omega)) (ct (inB_nat' (by simp)) (ct (by simp) (ct (fits_of (by simp [takeN_eq]; omega)) ?_))))
      rw [takeN_eq, Int.toNat_natCast, List.take_length, wrap8 (by omega) (by omega), uencF, if_pos hs, List.nil_append]
    · have hk : 1 ≤ k := by
        cases k with
        | zero => simp at h1; omega
        | succ k => omega
      obtain ⟨m, hm⟩ := l72c k (v / 128) (acc ++ [[.int .u8 (v % 128 + 128)]]) (by omega) (by rw [Int.pow_succ] at h1; omega) (by omega) hk (by simp; omega)
      refine ⟨m + 1, ?_⟩
      rw [e72_0_c1]
      refine ct (decide_eq_true (by omega)) (ct (fits_of (by simp; omega)) ?_)
      have e : orI .u8 (IntKind.wrap .u8 v) 128 = v % 128 + 128 := by
        rw [wrapu8_eq, or8 (by omega) (by omega)]
        omega
      rw [e, shr7, hm, uencF, if_neg hs, List.append_assoc]
      rfl

theorem okU_of {v : Int} (h : okU v = true) : 0 ≤ v ∧ v < 18446744073709551616 := by
  unfold okU at h
  have h := eq_of_beq h
  omega

theorem okU_mk {v : Int} (h0 : 0 ≤ v) (h1 : v < 18446744073709551616) : okU v = true := by
  unfold okU
  exact beq_iff_eq.2 (by omega)

theorem k72c (v : Int) (h : okU v = true) : ∃ m, runF E (callOf L40) m 72 [.one .nils, .one (.int .u64 v)] [] = some ([.one (.sl true 5 (uenc v))], []) := by
  obtain ⟨h0, h1⟩ := okU_of h
  obtain ⟨m, hm⟩ := l72c 10 v [] h0 (pow10 h1) h1 (by omega) (by simp)
  exact ⟨m + 1, by rw [e72_c1]; exact hm⟩

theorem okRows_of {c : List (List Cell)} (h : okRows c = true) : c.length ≤ 1000 ∧ shortRows c = true := by
  unfold okRows at h
  simp only [Bool.and_eq_true, decide_eq_true_eq] at h
  exact h

theorem okRows_mk {c : List (List Cell)} (h1 : c.length ≤ 1000) (h2 : shortRows c = true) : okRows c = true := by
  unfold okRows
  simp only [Bool.and_eq_true, decide_eq_true_eq]
  exact ⟨h1, h2⟩

theorem all_at {p : List Cell → Bool} {l : List (List Cell)} (h : l.all p = true) {i : Nat} (hi : i < l.length) : p (Abs.rowAt l i) = true := by
  rw [rowAt_eq hi]
  exact List.all_eq_true.1 h _ (List.getElem_mem hi)

theorem short_at {c : List (List Cell)} (h : shortRows c = true) {i : Nat} (hi : i < c.length) : (nl (Abs.rowAt c i) 2).length < 9223372036854775808 := by
  have := all_at h hi
  unfold shortRow at this
  simpa using this

theorem vCfgF_first (q q' : List Cell) (l : List (List Cell)) : vCfgF true q l = vCfgF true q' l := by
  cases l <;> simp [vCfgF]

theorem vCfg_step (first : Bool) (q r : List Cell) (rs : List (List Cell)) : vCfgF first q (r :: rs) =
    if vPropR r ≠ 0 then vPropR r
    else if first = false ∧ cmpP (nr r 0) (nr r 1) (nr q 0) (nr q 1) ≤ 0 then 7
    else if 1 < nr r 1 ∧ (first = true ∨ nr q 0 ≠ nr r 0 ∨ nr q 1 ≠ nr r 1 - 1) then 8
    else vCfgF false r rs := rfl

theorem l30 (c : List (List Cell)) (hc : c.length ≤ 1000) (hs : shortRows c = true) : ∀ (d i : Nat), i + d = c.length →
    ∃ m, goF E (callOf L22) F30 0 m P30_0 (M30_0 c c c.length i) = some ([.one (.int .i64 (vCfgF (decide (i = 0)) (Abs.rowAt c (i - 1)) (c.drop i)))], [])
  | 0, i, hi => by
    refine ⟨1, ?_⟩
    rw [e30_0]
    have : c.drop i = [] := List.drop_eq_nil_of_le (by omega)
    rw [this, vCfgF]
    exact cf (decide_eq_false (by omega)) rfl
  | d + 1, i, hi => by
    have hi' : i < c.length := by omega
    obtain ⟨m, hm⟩ := l30 c hc hs d (i + 1) (by omega)
    rw [decide_eq_false (by omega : ¬ i + 1 = 0), Nat.add_sub_cancel] at hm
    have hsh := short_at hs hi'
    refine ⟨m + 1, ?_⟩
    rw [e30_0, drop_cons c i hi', vCfg_step, Int.toNat_natCast, nat_wrap (n := c.length) hi' (by omega), hm]
    refine ct (decide_eq_true (by omega)) (ct (inB_nat' hi') (ct (decide_eq_true hsh) ?_))
    generalize hr : Abs.rowAt c i = r
    show cond (vPropR r != 0) (some ([AV.one (AC.int .i64 (vPropR r))], ([] : List Block))) _ = _
    by_cases hv : vPropR r = 0
    · rw [if_neg (by simpa using hv)]
      refine cf (by simpa using hv) ?_
      have hn := vProp_ok hv
      by_cases h0 : i = 0
      · subst h0
        refine cf (decide_eq_false (by simp)) ?_
        rw [decide_eq_true rfl, if_neg (by simp)]
        by_cases h1 : 1 < nr r 1
        · rw [if_pos ⟨h1, Or.inl rfl⟩]
          exact ct (decide_eq_true h1) (ct (by simp) rfl)
        · rw [if_neg (fun h => h1 h.1)]
          exact cf (decide_eq_false h1) rfl
      · rw [wrap64 (n := (i : Int) - 1) (by omega) (by omega), show ((i : Int) - 1).toNat = i - 1 by omega, wrap64 (n := nr r 1 - 1) (by omega) (by omega)]
        rw [decide_eq_false h0]
        generalize Abs.rowAt c (i - 1) = q
        refine ct (decide_eq_true (by omega)) (ct (inB_of (by omega) (by omega)) ?_)
        by_cases h2 : cmpP (nr r 0) (nr r 1) (nr q 0) (nr q 1) ≤ 0
        · rw [if_pos ⟨rfl, h2⟩]
          exact ct (decide_eq_true h2) rfl
        · rw [if_neg (fun h => h2 h.2)]
          refine cf (decide_eq_false h2) ?_
          by_cases h1 : 1 < nr r 1
          · refine ct (decide_eq_true h1) (cf (beq_eq_false_iff_ne.2 (by omega)) (ct (inB_of (by omega) (by omega)) ?_))
            by_cases h3 : nr q 0 = nr r 0
            · refine cf (bne_eq_false_iff_eq.2 h3) (ct (inB_of (by omega) (by omega)) ?_)
              by_cases h4 : nr q 1 = nr r 1 - 1
              · rw [if_neg (by simp [h3, h4])]
                exact cf (bne_eq_false_iff_eq.2 h4) rfl
              · rw [if_pos ⟨h1, Or.inr (Or.inr h4)⟩]
                exact ct (bne_iff_ne.2 h4) rfl
            · rw [if_pos ⟨h1, Or.inr (Or.inl h3)⟩]
              exact ct (bne_iff_ne.2 h3) rfl
          · rw [if_neg (fun h => h1 h.1)]
            exact cf (decide_eq_false h1) rfl
    · rw [if_pos hv]
      exact ct (by simpa using hv) rfl

theorem k30 (c : List (List Cell)) (h : okRows c = true) : ∃ m, runF E (callOf L22) m 30 [.one (.sl false 53 c)] [] = some ([.one (.int .i64 (vCfg c))], []) := by
  obtain ⟨h1, h2⟩ := okRows_of h
  obtain ⟨m, hm⟩ := l30 c h1 h2 c.length 0 (by omega)
  refine ⟨m + 1, ?_⟩
  rw [e30]
  refine Eq.trans hm ?_
  rw [decide_eq_true rfl, List.drop_zero, vCfgF_first _ []]
  rfl

theorem cmpP_swap (a n b m : Int) : (cmpP b m a n ≥ 0) ↔ (cmpP a n b m ≤ 0) := by
  have := cmpP_cases a n b m
  have := cmpP_cases b m a n
  omega

theorem l32 (c : List (List Cell)) (hc : c.length ≤ 1000) (hs : shortRows c = true) : ∀ (d i : Nat), i + d = c.length →
    ∃ m, goF E (callOf L30) F32 0 m P32_0 (M32_0 c i) = some ([.one (.int .i64 (vCfgF (decide (i = 0)) (Abs.rowAt c (i - 1)) (c.drop i)))], [])
  | 0, i, hi => by
    refine ⟨1, ?_⟩
    rw [e32_0]
    have : c.drop i = [] := List.drop_eq_nil_of_le (by omega)
    rw [this, vCfgF]
    exact cf (decide_eq_false (by omega)) rfl
  | d + 1, i, hi => by
    have hi' : i < c.length := by omega
    obtain ⟨m, hm⟩ := l32 c hc hs d (i + 1) (by omega)
    rw [decide_eq_false (by omega : ¬ i + 1 = 0), Nat.add_sub_cancel] at hm
    have hsh := short_at hs hi'
    have hib := inB_nat' hi'
    refine ⟨m + 1, ?_⟩
    rw [e32_0, drop_cons c i hi', vCfg_step, Int.toNat_natCast, nat_wrap (n := c.length) hi' (by omega), hm]
    refine ct (decide_eq_true (by omega)) (ct hib (ct (decide_eq_true hsh) ?_))
    generalize hr : Abs.rowAt c i = r
    show cond (vPropR r != 0) (some ([AV.one (AC.int .i64 (vPropR r))], ([] : List Block))) _ = _
    by_cases hv : vPropR r = 0
    · rw [if_neg (by simpa using hv)]
      refine cf (by simpa using hv) ?_
      have hn := vProp_ok hv
      by_cases h0 : i = 0
      · subst h0
        refine cf (decide_eq_false (by simp)) (ct hib ?_)
        rw [decide_eq_true rfl, if_neg (by simp)]
        by_cases h1 : 1 < nr r 1
        · rw [if_pos ⟨h1, Or.inl rfl⟩]
          exact ct (decide_eq_true h1) (ct (by simp) rfl)
        · rw [if_neg (fun h => h1 h.1)]
          exact cf (decide_eq_false h1) rfl
      · rw [wrap64 (n := (i : Int) - 1) (by omega) (by omega), show ((i : Int) - 1).toNat = i - 1 by omega, wrap64 (n := nr r 1 - 1) (by omega) (by omega)]
        rw [decide_eq_false h0]
        generalize Abs.rowAt c (i - 1) = q
        have hsw := cmpP_swap (nr r 0) (nr r 1) (nr q 0) (nr q 1)
        refine ct (decide_eq_true (by omega)) (ct (inB_of (by omega) (by omega)) (ct hib ?_))
        by_cases h2 : cmpP (nr r 0) (nr r 1) (nr q 0) (nr q 1) ≤ 0
        · rw [if_pos ⟨rfl, h2⟩]
          exact ct (decide_eq_true (hsw.2 h2)) rfl
        · rw [if_neg (fun h => h2 h.2)]
          refine cf (decide_eq_false (fun h => h2 (hsw.1 h))) (ct hib ?_)
          by_cases h1 : 1 < nr r 1
          · refine ct (decide_eq_true h1) (cf (beq_eq_false_iff_ne.2 (by omega)) (ct (inB_of (by omega) (by omega)) (ct hib ?_)))
            by_cases h3 : nr q 0 = nr r 0
            · refine cf (bne_eq_false_iff_eq.2 h3) (ct (inB_of (by omega) (by omega)) (ct hib ?_))
              by_cases h4 : nr q 1 = nr r 1 - 1
              · rw [if_neg (by simp [h3, h4])]
                exact cf (bne_eq_false_iff_eq.2 h4) rfl
              · rw [if_pos ⟨h1, Or.inr (Or.inr h4)⟩]
                exact ct (bne_iff_ne.2 h4) rfl
            · rw [if_pos ⟨h1, Or.inr (Or.inl h3)⟩]
              exact ct (bne_iff_ne.2 h3) rfl
          · rw [if_neg (fun h => h1 h.1)]
            exact cf (decide_eq_false h1) rfl
    · rw [if_pos hv]
      exact ct (by simpa using hv) rfl

theorem k32 (c : List (List Cell)) (h : okRows c = true) : ∃ m, runF E (callOf L30) m 32 [.one (.sl false 53 c)] [] = some ([.one (.int .i64 (vCfg c))], []) := by
  obtain ⟨h1, h2⟩ := okRows_of h
  obtain ⟨m, hm⟩ := l32 c h1 h2 c.length 0 (by omega)
  refine ⟨m + 1, ?_⟩
  rw [e32]
  refine Eq.trans hm ?_
  rw [decide_eq_true rfl, List.drop_zero, vCfgF_first _ []]
  rfl

theorem l19 (c d : List (List Cell)) (hc : c.length ≤ 1000) (hs : shortRows c = true) (hd : c.length = d.length) : ∀ (e i : Nat), i + e = c.length →
    ∃ m, goF E (callOf L32) F19 0 m P19_0 (M19_0 c d i) = some ([.one (.bool (eqCfgF (c.drop i) (d.drop i)))], [])
  | 0, i, hi => by
    refine ⟨1, ?_⟩
    rw [e19_0]
    have : c.drop i = [] := List.drop_eq_nil_of_le (by omega)
    rw [this, eqCfgF]
    exact cf (decide_eq_false (by omega)) rfl
  | e + 1, i, hi => by
    have hi' : i < c.length := by omega
    obtain ⟨m, hm⟩ := l19 c d hc hs hd e (i + 1) (by omega)
    refine ⟨m + 1, ?_⟩
    rw [e19_0]
    rw [drop_cons c i hi', eqCfgF, Int.toNat_natCast, nat_wrap (n := c.length) hi' (by omega), hm, rowAt_drop, List.drop_drop, Nat.add_zero]
    refine ct (decide_eq_true (by omega)) (ct (inB_nat' hi') (ct (inB_nat' (by omega)) (ct (decide_eq_true (short_at hs hi')) ?_)))
    show cond (!(eqPR (Abs.rowAt c i) (Abs.rowAt d i))) _ _ = _
    generalize eqPR (Abs.rowAt c i) (Abs.rowAt d i) = b1
    cases b1 <;> rfl

theorem k19 (c d : List (List Cell)) (h : okRows c = true) : ∃ m, runF E (callOf L32) m 19 [.one (.sl false 53 c), .one (.sl false 53 d)] [] = some ([.one (.bool (eqCfg c d))], []) := by
  obtain ⟨h1, h2⟩ := okRows_of h
  unfold eqCfg
  by_cases hd : c.length = d.length
  · obtain ⟨m, hm⟩ := l19 c d h1 h2 hd c.length 0 (by omega)
    refine ⟨m + 1, ?_⟩
    rw [e19, show (0 : Int) = ((0 : Nat) : Int) from rfl, hm, decide_eq_true hd]
    exact cf (bne_eq_false_iff_eq.2 (by omega)) rfl
  · refine ⟨1, ?_⟩
    rw [e19, decide_eq_false hd]
    exact ct (bne_iff_ne.2 (by omega)) rfl

theorem okCApp_of {x c : List (List Cell)} (h : okCApp x c = true) : x.length ≤ 100000 ∧ c.length ≤ 100 ∧ c.all fewCh = true := by
  unfold okCApp at h
  simp only [Bool.and_eq_true, decide_eq_true_eq] at h
  exact h

theorem few_at {c : List (List Cell)} (h : c.all fewCh = true) {i : Nat} (hi : i < c.length) : (nl (Abs.rowAt c i) 2).length ≤ 100 := by
  have := all_at h hi
  unfold fewCh at this
  simpa using this

theorem okApp_mk {x c : List (List Cell)} (h1 : x.length ≤ 1000000) (h2 : c.length ≤ 1000) : okApp x c = true := by
  unfold okApp
  simp [h1, h2]

theorem encR_le (r : List Cell) : (encR r).length ≤ 30 + 70 * (nl r 2).length := encP_len _ _ _

theorem l51 (x c : List (List Cell)) (hx : x.length ≤ 100000) (hc : c.length ≤ 100) (hf : c.all fewCh = true) : ∀ (d i : Nat) (y : List (List Cell)), i + d = c.length → y.length ≤ 20 + 7030 * i →
    ∃ m, goF E (callOf L19) F51 0 m P51_0 (M51_0 x y c c.length i) = some ([.one (.sl true 5 (x ++ (y ++ encAll (c.drop i))))], [])
  | 0, i, y, hi, hy => by
    refine ⟨1, ?_⟩
    rw [e51_0]
    have : c.drop i = [] := List.drop_eq_nil_of_le (by omega)
    simp only [takeN_eq, Int.toNat_natCast, List.take_length, this, encAll, List.append_nil]
    exact cf (decide_eq_false (by omega)) (ct (inB_nat' (by omega)) (ct (by simp) (ct (fits_of (by omega)) rfl)))
  | d + 1, i, y, hi, hy => by
    have hi' : i < c.length := by omega
    have hfew := few_at hf hi'
    have hle := encR_le (Abs.rowAt c i)
    obtain ⟨m, hm⟩ := l51 x c hx hc hf d (i + 1) (y ++ encR (Abs.rowAt c i)) (by omega) (by simp; omega)
    refine ⟨m + 1, ?_⟩
    rw [e51_0, Int.toNat_natCast]
    refine ct (decide_eq_true (by omega)) (ct (inB_nat' hi') (ct (okApp_mk (by simp) (by omega)) (ct (fits_of (by have := hle; unfold encR at this; omega)) ?_)))
    rw [nat_wrap (n := c.length) hi' (by omega)]
    refine Eq.trans hm ?_
    rw [drop_cons c i hi', encAll]
    simp only [List.append_assoc]

theorem l51c (x c : List (List Cell)) (hx : x.length ≤ 100000) (hc : c.length ≤ 100) (hf : c.all fewCh = true) : ∀ (d i : Nat) (y : List (List Cell)), i + d = c.length → y.length ≤ 20 + 7030 * i →
    ∃ m, goF E (callOf L19) F51 0 m P51_0_c1 (M51_0_c1 x y c c.length i) = some ([.one (.sl true 5 (x ++ (y ++ encAll (c.drop i))))], [])
  | 0, i, y, hi, hy => by
    refine ⟨1, ?_⟩
    rw [e51_0_c1]
    have : c.drop i = [] := List.drop_eq_nil_of_le (by omega)
    simp only [takeN_eq, Int.toNat_natCast, List.take_length, this, encAll, List.append_nil]
    exact cf (decide_eq_false (by omega)) (ct (inB_nat' (by omega)) (ct (by simp) (ct (fits_of (by omega)) rfl)))
  | d + 1, i, y, hi, hy => by
    have hi' : i < c.length := by omega
    have hfew := few_at hf hi'
    have hle := encR_le (Abs.rowAt c i)
    obtain ⟨m, hm⟩ := l51c x c hx hc hf d (i + 1) (y ++ encR (Abs.rowAt c i)) (by omega) (by simp; omega)
    refine ⟨m + 1, ?_⟩
    rw [e51_0_c1, Int.toNat_natCast]
    refine ct (decide_eq_true (by omega)) (ct (inB_nat' hi') (ct (okApp_mk (by simp) (by omega)) (ct (fits_of (by have := hle; unfold encR at this; omega)) ?_)))
    rw [nat_wrap (n := c.length) hi' (by omega)]
    refine Eq.trans hm ?_
    rw [drop_cons c i hi', encAll]
    simp only [List.append_assoc]

theorem k51 (x c : List (List Cell)) (h : okCApp x c = true) : ∃ m, runF E (callOf L19) m 51 [.one (.sl false 5 x), .one (.sl false 53 c)] [] = some ([.one (.sl true 5 (x ++ encC c))], []) := by
  obtain ⟨h1, h2, h3⟩ := okCApp_of h
  have hu := uenc_len (c.length : Int)
  obtain ⟨m, hm⟩ := l51 x c h1 h2 h3 c.length 0 (uenc c.length) (by omega) (by omega)
  refine ⟨m + 1, ?_⟩
  rw [e51, wrapu (n := (c.length : Int)) (by omega) (by omega)]
  exact ct (okU_mk (by omega) (by omega)) hm

theorem k51c (c : List (List Cell)) (h : okCApp [] c = true) : ∃ m, runF E (callOf L19) m 51 [.one .nils, .one (.sl false 53 c)] [] = some ([.one (.sl true 5 (encC c))], []) := by
  obtain ⟨h1, h2, h3⟩ := okCApp_of h
  have hu := uenc_len (c.length : Int)
  obtain ⟨m, hm⟩ := l51c [] c h1 h2 h3 c.length 0 (uenc c.length) (by omega) (by omega)
  refine ⟨m + 1, ?_⟩
  rw [e51_c1, wrapu (n := (c.length : Int)) (by omega) (by omega)]
  refine ct (okU_mk (by omega) (by omega)) ?_
  refine Eq.trans hm ?_
  rw [List.nil_append, List.drop_zero]
  rfl

theorem l52 (c : List (List Cell)) (hc : c.length ≤ 100) (hf : c.all fewCh = true) : ∀ (d i : Nat) (y : List (List Cell)), i + d = c.length → y.length ≤ 100020 + 7030 * i →
    ∃ m, goF E (callOf L51) F52 0 m P52_0 (M52_0 y c i) = some ([.one (.sl false 5 (y ++ encAll (c.drop i)))], [])
  | 0, i, y, hi, hy => by
    refine ⟨1, ?_⟩
    rw [e52_0]
    have : c.drop i = [] := List.drop_eq_nil_of_le (by omega)
    rw [this, encAll, List.append_nil]
    exact cf (decide_eq_false (by omega)) rfl
  | d + 1, i, y, hi, hy => by
    have hi' : i < c.length := by omega
    have hfew := few_at hf hi'
    have hle := encR_le (Abs.rowAt c i)
    obtain ⟨m, hm⟩ := l52 c hc hf d (i + 1) (y ++ encR (Abs.rowAt c i)) (by omega) (by simp; omega)
    refine ⟨m + 1, ?_⟩
    rw [e52_0, Int.toNat_natCast]
    refine ct (decide_eq_true (by omega)) (ct (inB_nat' hi') (ct (okApp_mk (by omega) (by omega)) ?_))
    rw [nat_wrap (n := c.length) hi' (by omega)]
    refine Eq.trans hm ?_
    rw [drop_cons c i hi', encAll, List.append_assoc]

theorem l52c (c : List (List Cell)) (hc : c.length ≤ 100) (hf : c.all fewCh = true) : ∀ (d i : Nat) (y : List (List Cell)), i + d = c.length → y.length ≤ 100020 + 7030 * i →
    ∃ m, goF E (callOf L51) F52 0 m P52_0_c1 (M52_0_c1 y c i) = some ([.one (.sl false 5 (y ++ encAll (c.drop i)))], [])
  | 0, i, y, hi, hy => by
    refine ⟨1, ?_⟩
    rw [e52_0_c1]
    have : c.drop i = [] := List.drop_eq_nil_of_le (by omega)
    rw [this, encAll, List.append_nil]
    exact cf (decide_eq_false (by omega)) rfl
  | d + 1, i, y, hi, hy => by
    have hi' : i < c.length := by omega
    have hfew := few_at hf hi'
    have hle := encR_le (Abs.rowAt c i)
    obtain ⟨m, hm⟩ := l52c c hc hf d (i + 1) (y ++ encR (Abs.rowAt c i)) (by omega) (by simp; omega)
    refine ⟨m + 1, ?_⟩
    rw [e52_0_c1, Int.toNat_natCast]
    refine ct (decide_eq_true (by omega)) (ct (inB_nat' hi') (ct (okApp_mk (by omega) (by omega)) ?_))
    rw [nat_wrap (n := c.length) hi' (by omega)]
    refine Eq.trans hm ?_
    rw [drop_cons c i hi', encAll, List.append_assoc]

theorem enc_one (n : Nat) (h : n ≤ 1000) : encL [[Cell.int .i64 (n : Int)]] = uenc (n : Int) := by
  have e : nr [Cell.int .i64 (n : Int)] 0 = (n : Int) := rfl
  rw [encL, encL, List.append_nil, e, wrapu (by omega) (by omega)]

theorem k52 (x c : List (List Cell)) (h : okCApp x c = true) : ∃ m, runF E (callOf L51) m 52 [.one (.sl false 5 x), .one (.sl false 53 c)] [] = some ([.one (.sl false 5 (x ++ encC c))], []) := by
  obtain ⟨h1, h2, h3⟩ := okCApp_of h
  have hu := uenc_len (c.length : Int)
  obtain ⟨m, hm⟩ := l52 c h2 h3 c.length 0 (x ++ uenc c.length) (by omega) (by simp; omega)
  refine ⟨m + 1, ?_⟩
  rw [e52, enc_one c.length (by omega)]
  refine ct (okNums_mk (by omega) (by simp)) (Eq.trans hm ?_)
  rw [List.drop_zero, List.append_assoc]
  rfl

theorem k52c (c : List (List Cell)) (h : okCApp [] c = true) : ∃ m, runF E (callOf L51) m 52 [.one .nils, .one (.sl false 53 c)] [] = some ([.one (.sl false 5 (encC c))], []) := by
  obtain ⟨h1, h2, h3⟩ := okCApp_of h
  have hu := uenc_len (c.length : Int)
  obtain ⟨m, hm⟩ := l52c c h2 h3 c.length 0 ([] ++ uenc c.length) (by omega) (by simp; omega)
  refine ⟨m + 1, ?_⟩
  rw [e52_c1, enc_one c.length (by omega)]
  refine ct (okNums_mk (by simp) (by simp)) (Eq.trans hm ?_)
  rw [List.drop_zero, List.nil_append]
  rfl

theorem decP_bound {x : List (List Cell)} (hx : okRd x = true) : 0 ≤ (decP x).2.2.2.1 ∧ (decP x).2.2.2.1 ≤ x.length := by
  rw [decP_eq]
  split
  · simp
  · rename_i h0
    have hb := rread_bound hx (c := 3) (by simpa using h0)
    split
    · simp
    · unfold fin5
      split
      · simp
      · rename_i h1
        split
        · simp
        · have := decCs_bound x hx _ _ [] hb.1 hb.2.1 (by simpa using h1)
          simp only
          omega

theorem decPs_bound (x : List (List Cell)) (hx : okRd x = true) : ∀ (k : Nat) (o : Int) (acc : List (List Cell)), 0 ≤ o → o ≤ x.length → (decPs x k o acc).2.2 = 0 →
    (decPs x k o acc).1.length = acc.length + k ∧ (shortRows acc = true → shortRows (decPs x k o acc).1 = true)
  | 0, o, acc, _, _, _ => ⟨rfl, id⟩
  | k + 1, o, acc, h0, h1, h => by
    simp only [decPs] at h ⊢
    have hb := decP_bound (okRd_drop hx o.toNat)
    rw [List.length_drop] at hb
    have hl := decP_len _ (okRd_drop hx o.toNat)
    by_cases he : (decP (x.drop o.toNat)).2.2.2.2 = 0
    · rw [if_neg (by simpa using he)] at h ⊢
      have := decPs_bound x hx k _ (acc ++ [mkPr (decP (x.drop o.toNat))]) (by omega) (by omega) h
      simp only [List.length_append, List.length_cons, List.length_nil] at this
      refine ⟨by omega, fun hs => this.2 ?_⟩
      unfold shortRows at hs ⊢
      rw [List.all_append, hs]
      have e : nl (mkPr (decP (x.drop o.toNat))) 2 = (decP (x.drop o.toNat)).2.2.1 := rfl
      simp only [List.all_cons, List.all_nil, Bool.and_true, Bool.true_and, shortRow, e, decide_eq_true_eq]
      omega
    · rw [if_pos he] at h
      exact absurd h he

/-- the results of a decoder as the code hands them back -/
def dc (r : List (List Cell) × Int × Int) : List AV × List Block := ([.one (.sl true 53 r.1), .one (.int .i64 r.2.1), .one (.int .i64 r.2.2)], [])

theorem fin_tree {acc : List (List Cell)} {o : Int} (ho : okRows acc = true) :
    (cond (okRows acc) (cond ((vCfg acc) != 0) (some ([AV.one (.sl true 53 ([] : List (List Cell))), .one (.int .i64 0), .one (.int .i64 (vCfg acc))], ([] : List Block)))
      (some ([.one (.sl true 53 acc), .one (.int .i64 o), .one (.int .i64 0)], []))) none) = some (dc (finC (acc, o, 0))) := by
  refine ct ho ?_
  unfold finC
  rw [if_neg (by simp)]
  by_cases hv : vCfg acc = 0
  · rw [if_neg (by simpa using hv)]
    exact cf (by simpa using hv) rfl
  · rw [if_pos hv]
    exact ct (by simpa using hv) rfl

theorem snoc_short {acc : List (List Cell)} {x : List (List Cell)} (hs : shortRows acc = true) (hx : okRd x = true) : shortRows (acc ++ [mkPr (decP x)]) = true := by
  have hl := decP_len x hx
  unfold shortRows at hs ⊢
  rw [List.all_append, hs]
  have e : nl (mkPr (decP x)) 2 = (decP x).2.2.1 := rfl
  simp only [List.all_cons, List.all_nil, Bool.and_true, Bool.true_and, shortRow, e, decide_eq_true_eq]
  omega

theorem l49 (x : List (List Cell)) (hx : okRd x = true) (k : Int) (hk : k ≤ 9) : ∀ (d i : Nat) (o : Int) (acc : List (List Cell)), i + d = k.toNat → 0 ≤ o → o ≤ x.length → acc.length = i → shortRows acc = true →
    ∃ m, goF E (callOf L52) F49 0 m P49_0 (M49_0 x o acc k i) = some (dc (finC (decPs x d o acc))) := by
  intro d
  induction d with
  | zero =>
    intro i o acc hi h0 h1 ha hs
    refine ⟨1, ?_⟩
    rw [e49_0]
    exact cf (decide_eq_false (by omega)) (fin_tree (okRows_mk (by omega) hs))
  | succ d ih =>
    intro i o acc hi h0 h1 ha hs
    have h4 := okRd_drop hx o.toNat
    have hb := decP_bound h4
    rw [List.length_drop] at hb
    have hl := (okRd_of hx).2
    by_cases he : (decP (x.drop o.toNat)).2.2.2.2 = 0
    · obtain ⟨m, hm⟩ := ih (i + 1) (o + (decP (x.drop o.toNat)).2.2.2.1) (acc ++ [mkPr (decP (x.drop o.toNat))]) (by omega) (by omega) (by omega) (by simp; omega) (snoc_short hs h4)
      refine ⟨m + 1, ?_⟩
      rw [e49_0, dropN_eq]
      refine ct (decide_eq_true (by omega)) (ct (inB_of h0 (by omega)) (ct h4 (cf (by simpa using he) (ct (fits_of (by simp; omega)) ?_))))
      rw [wrap64 (by omega) (by omega), wrapu (by omega) (by omega), show (i : Int) + 1 = ((i + 1 : Nat) : Int) by omega]
      simp only [decPs, if_neg (show ¬ (decP (x.drop o.toNat)).2.2.2.2 ≠ 0 by simpa using he)]
      exact hm
    · refine ⟨1, ?_⟩
      rw [e49_0, dropN_eq]
      refine ct (decide_eq_true (by omega)) (ct (inB_of h0 (by omega)) (ct h4 (ct (by simpa using he) ?_)))
      simp only [decPs, if_pos he, finC]
      rfl

theorem k49 (x : List (List Cell)) (hx : okRd x = true) : ∃ m, runF E (callOf L52) m 49 [.one (.sl false 5 x)] [] = some (dc (decC x)) := by
  unfold decC
  by_cases he : (udec x).2.2 = 0
  · rw [if_neg (by simpa using he)]
    have hb := udec_bound (okRd_of hx).1 he
    by_cases h9 : 9 < (udec x).1
    · refine ⟨1, ?_⟩
      rw [e49, if_pos h9]
      exact ct hx (cf (by simpa using he) (ct (decide_eq_true h9) rfl))
    · obtain ⟨m, hm⟩ := l49 x hx (udec x).1 (by omega) (udec x).1.toNat 0 (udec x).2.1 [] (by omega) (by omega) (by omega) rfl rfl
      refine ⟨m + 1, ?_⟩
      rw [e49, if_neg h9]
      exact ct hx (cf (by simpa using he) (cf (decide_eq_false h9) hm))
  · refine ⟨1, ?_⟩
    rw [e49, if_pos he]
    exact ct hx (ct (by simpa using he) rfl)

theorem l50 (x : List (List Cell)) (hx : okRd x = true) (k : Int) (hk : k ≤ 9) (hk0 : 0 ≤ k) : ∀ (d i : Nat) (o : Int) (acc : List (List Cell)), i + d = k.toNat → 0 ≤ o → o ≤ x.length → acc.length = i → shortRows acc = true →
    ∃ m, goF E (callOf L49) F50 0 m P50_0 (M50_0 x k o acc i) = some (dc (finC (decPs x d o acc))) := by
  intro d
  induction d with
  | zero =>
    intro i o acc hi h0 h1 ha hs
    refine ⟨1, ?_⟩
    rw [e50_0, wrap64 (n := k) (by omega) (by omega)]
    exact cf (decide_eq_false (by omega)) (fin_tree (okRows_mk (by omega) hs))
  | succ d ih =>
    intro i o acc hi h0 h1 ha hs
    have h4 := okRd_drop hx o.toNat
    have hb := decP_bound h4
    rw [List.length_drop] at hb
    have hl := (okRd_of hx).2
    by_cases he : (decP (x.drop o.toNat)).2.2.2.2 = 0
    · obtain ⟨m, hm⟩ := ih (i + 1) (o + (decP (x.drop o.toNat)).2.2.2.1) (acc ++ [mkPr (decP (x.drop o.toNat))]) (by omega) (by omega) (by omega) (by simp; omega) (snoc_short hs h4)
      refine ⟨m + 1, ?_⟩
      rw [e50_0, dropN_eq, wrap64 (n := k) (by omega) (by omega)]
      refine ct (decide_eq_true (by omega)) (ct (inB_of h0 (by omega)) (ct h4 (cf (by simpa using he) (ct (fits_of (by simp; omega)) ?_))))
      rw [wrap64 (by omega) (by omega), nat_wrap (n := 9) (by omega) (by omega)]
      simp only [decPs, if_neg (show ¬ (decP (x.drop o.toNat)).2.2.2.2 ≠ 0 by simpa using he)]
      exact hm
    · refine ⟨1, ?_⟩
      rw [e50_0, dropN_eq, wrap64 (n := k) (by omega) (by omega)]
      refine ct (decide_eq_true (by omega)) (ct (inB_of h0 (by omega)) (ct h4 (ct (by simpa using he) ?_)))
      simp only [decPs, if_pos he, finC]
      rfl

theorem k50 (x : List (List Cell)) (hx : okRd x = true) : ∃ m, runF E (callOf L49) m 50 [.one (.sl false 5 x)] [] = some (dc (decC x)) := by
  unfold decC
  by_cases he : (udec x).2.2 = 0
  · rw [if_neg (by simpa using he)]
    have hb := udec_bound (okRd_of hx).1 he
    by_cases h9 : 9 < (udec x).1
    · refine ⟨1, ?_⟩
      rw [e50, if_pos h9]
      exact ct hx (cf (by simpa using he) (ct (decide_eq_true h9) rfl))
    · obtain ⟨m, hm⟩ := l50 x hx (udec x).1 (by omega) (by omega) (udec x).1.toNat 0 (udec x).2.1 [] (by omega) (by omega) (by omega) rfl rfl
      refine ⟨m + 1, ?_⟩
      rw [e50, if_neg h9]
      exact ct hx (cf (by simpa using he) (cf (decide_eq_false h9) hm))
  · refine ⟨1, ?_⟩
    rw [e50, if_pos he]
    exact ct hx (ct (by simpa using he) rfl)

theorem eqCfgF_refl : ∀ c : List (List Cell), eqCfgF c c = true
  | [] => rfl
  | r :: c => by
    rw [eqCfgF]
    show (eqPR r r && eqCfgF c c) = true
    rw [eqCfgF_refl c]
    simp [eqPR, eqP_refl]

theorem eqCfg_refl (c : List (List Cell)) : eqCfg c c = true := by
  simp [eqCfg, eqCfgF_refl]

theorem decC_rows {x : List (List Cell)} (hx : okRd x = true) : okRows (decC x).1 = true := by
  unfold decC
  split
  · rfl
  · rename_i he
    have hb := udec_bound (okRd_of hx).1 (by simpa using he)
    split
    · rfl
    · unfold finC
      split
      · rfl
      · rename_i h1
        split
        · rfl
        · have := decPs_bound x hx (udec x).1.toNat (udec x).2.1 [] (by omega) (by omega) (by simpa using h1)
          exact okRows_mk (by rw [this.1, List.length_nil]; omega) (this.2 rfl)

def rePr (r : List Cell) : List Cell := [.int .i64 (nr r 0), .int .i64 (nr r 1), .slice 50 ((nl r 2).map reCh)]

theorem vPropR_re (r : List Cell) : vPropR (rePr r) = vPropR r := vProp_re _ _ _

theorem vCfgF_re : ∀ (l : List (List Cell)) (first : Bool) (q : List Cell), vCfgF first (rePr q) (l.map rePr) = vCfgF first q l
  | [], _, _ => rfl
  | r :: l, first, q => by
    rw [List.map_cons, vCfg_step, vCfg_step, vPropR_re, vCfgF_re l false r]
    rfl

theorem vCfg_re (l : List (List Cell)) : vCfg (l.map rePr) = vCfg l := by
  unfold vCfg
  rw [vCfgF_first [] (rePr [])]
  exact vCfgF_re l true []

theorem eqCfgF_re : ∀ (l : List (List Cell)), eqCfgF l (l.map rePr) = true
  | [] => rfl
  | r :: l => by
    rw [List.map_cons, eqCfgF]
    show (eqPR r (rePr r) && eqCfgF l (l.map rePr)) = true
    rw [eqCfgF_re l, Bool.and_true]
    exact eqP_re (nr r 0) (nr r 1) (nl r 2)

theorem vCfgF_mem : ∀ {l : List (List Cell)} {first : Bool} {q : List Cell}, vCfgF first q l = 0 → ∀ r ∈ l, vPropR r = 0
  | [], _, _, _, r, hr => by cases hr
  | p :: l, first, q, h, r, hr => by
    rw [vCfg_step] at h
    by_cases h0 : vPropR p = 0
    · rw [if_neg (by simpa using h0)] at h
      split at h
      · simp at h
      · split at h
        · simp at h
        · rcases List.mem_cons.1 hr with rfl | hr
          · exact h0
          · exact vCfgF_mem h r hr
    · rw [if_pos h0] at h
      exact absurd h h0

theorem decPs_enc (rest : List (List Cell)) : ∀ (l pre acc : List (List Cell)), (∀ r ∈ l, vPropR r = 0) →
    decPs (pre ++ (encAll l ++ rest)) l.length pre.length acc = (acc ++ l.map rePr, ((pre.length + (encAll l).length : Nat) : Int), 0)
  | [], pre, acc, _ => by simp [decPs, encAll]
  | r :: l, pre, acc, h => by
    have ih := decPs_enc rest l (pre ++ encR r) (acc ++ [rePr r]) (fun q hq => h q (List.mem_cons_of_mem _ hq))
    have e : (pre ++ (encAll (r :: l) ++ rest)).drop ((pre.length : Nat) : Int).toNat = encR r ++ (encAll l ++ rest) := by
      rw [Int.toNat_natCast, List.drop_left, encAll, List.append_assoc]
    have hd : decP (encR r ++ (encAll l ++ rest)) = (nr r 0, nr r 1, (nl r 2).map reCh, ((encR r).length : Int), 0) := decP_enc (h r List.mem_cons_self) _
    rw [List.length_cons, decPs, e, hd, if_neg (by simp)]
    simp only
    have e2 : pre ++ (encAll (r :: l) ++ rest) = (pre ++ encR r) ++ (encAll l ++ rest) := by
      rw [encAll]; simp only [List.append_assoc]
    rw [e2, ← Int.natCast_add, ← List.length_append]
    refine Eq.trans ih ?_
    simp only [List.map_cons, List.append_assoc, List.length_append, encAll, List.cons_append, List.nil_append]
    congr 3
    omega

/-- more proposals than nine would have three numbers of three administrators -/
theorem vCfgF_count : ∀ (l : List (List Cell)) (q : List Cell), 201 ≤ nr q 0 → nr q 0 ≤ 203 → 1 ≤ nr q 1 → nr q 1 ≤ 3 → vCfgF false q l = 0 → (l.length : Int) ≤ 3 * (203 - nr q 0) + (3 - nr q 1)
  | [], q, h0, h1, h2, h3, _ => by simp; omega
  | r :: l, q, h0, h1, h2, h3, h => by
    rw [vCfg_step] at h
    by_cases hv : vPropR r = 0
    · rw [if_neg (by simpa using hv)] at h
      have hn := vProp_ok hv
      split at h
      · simp at h
      · rename_i h4
        split at h
        · simp at h
        · rename_i h5
          have ih := vCfgF_count l r (by omega) (by omega) (by omega) (by omega) h
          have hcmp := cmpP_cases (nr r 0) (nr r 1) (nr q 0) (nr q 1)
          have hgt : ¬ cmpP (nr r 0) (nr r 1) (nr q 0) (nr q 1) ≤ 0 := fun hh => h4 ⟨rfl, hh⟩
          have h6 : ¬ (1 < nr r 1 ∧ (nr q 0 ≠ nr r 0 ∨ nr q 1 ≠ nr r 1 - 1)) := fun hh => h5 ⟨hh.1, Or.inr hh.2⟩
          rw [List.length_cons]
          omega
    · rw [if_pos hv] at h
      exact absurd h hv

theorem vCfg_nine {c : List (List Cell)} (h : vCfg c = 0) : c.length ≤ 9 := by
  cases c with
  | nil => simp
  | cons r l =>
    unfold vCfg at h
    have hm := vCfgF_mem h r List.mem_cons_self
    have hn := vProp_ok hm
    rw [vCfg_step, if_neg (by simpa using hm), if_neg (by simp)] at h
    split at h
    · simp at h
    · have := vCfgF_count l r (by omega) (by omega) (by omega) (by omega) h
      rw [List.length_cons]
      omega

theorem encAll_lenF : ∀ (x : List (List Cell)), x.all fewCh = true → (encAll x).length ≤ 7030 * x.length
  | [], _ => by simp [encAll]
  | r :: x, h => by
    rw [List.all_cons, Bool.and_eq_true] at h
    have h1 : (nl r 2).length ≤ 100 := by simpa [fewCh] using h.1
    have := encR_le r
    have := encAll_lenF x h.2
    simp only [encAll, List.length_append, List.length_cons]
    omega

theorem valid_few {c : List (List Cell)} (h : vCfg c = 0) : c.all fewCh = true := by
  refine List.all_eq_true.2 fun r hr => ?_
  have := (vProp_ok (vCfgF_mem h r hr)).2.2.2.2.2.1
  unfold fewCh
  simp only [decide_eq_true_eq]
  omega

/-- a valid configuration is read back, whatever follows -/
theorem decC_enc {c : List (List Cell)} (h : vCfg c = 0) (rest : List (List Cell)) : decC (encC c ++ rest) = (c.map rePr, ((encC c).length : Int), 0) := by
  have h9 := vCfg_nine h
  have hu := udec_uenc (v := (c.length : Int)) (by omega) (by omega) (encAll c ++ rest)
  have e : encC c ++ rest = uenc c.length ++ (encAll c ++ rest) := by rw [encC, List.append_assoc]
  unfold decC
  rw [e, hu, if_neg (by simp)]
  simp only
  rw [if_neg (by omega), Int.toNat_natCast, decPs_enc rest c (uenc c.length) [] (fun r hr => vCfgF_mem h r hr)]
  unfold finC
  simp only
  rw [if_neg (by simp), List.nil_append, vCfg_re, h, if_neg (by simp), encC, List.length_append]

end Go.Proofs.Ytdgijohgncchiaa
