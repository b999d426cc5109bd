/-
  The contracts of the reference's functions over sets of proposals and over vectors.
-/
import Derived.Test.YtohikghidhdhjaaSetA
namespace Go.Proofs.Ytohikghidhdhjaa
open Go.Abs

theorem l52 (c : List (List Cell)) (a n : Int) (p : List (List Cell)) (hc : c.length ≤ 1000) : ∀ (d i : Nat), i + d = c.length →
    ∃ m, goF E (callOf L34) F52 0 m P52_0 (M52_0 c i a n p) = some ([.one (.bool (hasK (c.drop i) (prow a n p)))], [])
  | 0, i, hi => by
    refine ⟨1, ?_⟩
    rw [e52_0]
    have : c.drop i = [] := List.drop_eq_nil_of_le (by omega)
    rw [this]
    exact cf (decide_eq_false (by omega)) rfl
  | d + 1, i, hi => by
    have hi' : i < c.length := by omega
    obtain ⟨m, hm⟩ := l52 c a n p hc d (i + 1) (by omega)
    refine ⟨m + 1, ?_⟩
    have c1 := cmp_eq (Abs.rowAt c i) (prow a n p)
    rw [e52_0, Int.toNat_natCast, drop_cons c i hi', hasK_cons, nat_wrap (n := c.length) hi' (by omega), hm]
    refine ct (decide_eq_true (by omega)) (ct (inB_nat' hi') ?_)
    cases hk : kEq (Abs.rowAt c i) (prow a n p)
    · exact cf (c1.trans hk) rfl
    · exact ct (c1.trans hk) rfl

theorem k52 (c : List (List Cell)) (a n : Int) (p : List (List Cell)) (h : okLn c = true) : ∃ m, runF E (callOf L34) m 52 [.one (.sl false 45 c), .agg [.int .i64 a, .int .i64 n, .sl false 63 p]] [] = some ([.one (.bool (hasK c (prow a n p)))], []) := by
  obtain ⟨m, hm⟩ := l52 c a n p (okLn_of h) c.length 0 (by omega)
  exact ⟨m + 1, by rw [e52]; exact hm⟩

theorem l20 (c d : List (List Cell)) (hs : okLn c = true) (hd : d.length ≤ 1000) : ∀ (e i : Nat), i + e = d.length →
    ∃ m, goF E (callOf L52) F20 0 m P20_0 (M20_0 c d i) = some ([.one (.bool (contK c (d.drop i)))], [])
  | 0, i, hi => by
    refine ⟨1, ?_⟩
    rw [e20_0]
    have : d.drop i = [] := List.drop_eq_nil_of_le (by omega)
    rw [this]
    exact cf (decide_eq_false (by omega)) rfl
  | e + 1, i, hi => by
    have hi' : i < d.length := by omega
    obtain ⟨m, hm⟩ := l20 c d hs hd e (i + 1) (by omega)
    refine ⟨m + 1, ?_⟩
    rw [e20_0, Int.toNat_natCast, drop_cons d i hi', hasK_prow]
    refine ct (decide_eq_true (by omega)) (ct (inB_nat' hi') (ct hs ?_))
    unfold contK at hm ⊢
    rw [List.all_cons, nat_wrap (n := d.length) hi' (by omega), hm]
    cases hasK c (Abs.rowAt d i) <;> rfl

theorem k20 (c d : List (List Cell)) (h : (okLn c && okLn d) = true) : ∃ m, runF E (callOf L52) m 20 [.one (.sl false 45 c), .one (.sl false 45 d)] [] = some ([.one (.bool (contK c d))], []) := by
  simp only [Bool.and_eq_true] at h
  obtain ⟨m, hm⟩ := l20 c d h.1 (okLn_of h.2) d.length 0 (by omega)
  exact ⟨m + 1, by rw [e20]; exact hm⟩

theorem k22 (c d : List (List Cell)) (h : (okLn c && okLn d) = true) : runF E (callOf L20) 1 22 [.one (.sl false 45 c), .one (.sl false 45 d)] [] = some ([.one (.bool (contK c d && contK d c))], []) := by
  simp only [Bool.and_eq_true] at h
  rw [e22, h.1, h.2]
  cases contK c d <;> rfl

/- THE MERGE -/

theorem mrgF_nilr (n : Nat) (a : List (List Cell)) (h : a.length < n) : mrgF n a [] = a := by
  cases n with
  | zero => omega
  | succ n => cases a <;> rfl

theorem l25 (c d : List (List Cell)) (hc : c.length ≤ 1000) (hd : d.length ≤ 1000) (pc : c.all isPR = true) (pd : d.all isPR = true) : ∀ (n i k : Nat) (v : List (List Cell)), (c.length - i) + (d.length - k) < n → i ≤ c.length → k ≤ d.length → v.length ≤ i + k →
    ∃ m, goF E (callOf L22) F25 0 m P25_0 (M25_0 c d v i k) = some ([.one (.sl false 45 (v ++ mrgF n (c.drop i) (d.drop k)))], []) := by
  intro n
  induction n with
  | zero => intro i k v he; omega
  | succ n ih =>
    intro i k v he hi hk hv
    by_cases h1 : i < c.length
    · have hw1 : IntKind.wrap .i64 ((i : Int) + 1) = ((i + 1 : Nat) : Int) := nat_wrap h1 (by omega)
      have hi1 := inB_nat' h1
      have ec := drop_cons c i h1
      have hf : ∀ r : List Cell, fits (v.length + [r].length) = true := fun r => fits_of (by simp; omega)
      by_cases h2 : k < d.length
      · -- both
        have ed := drop_cons d k h2
        have c1 := cmp_lt (Abs.rowAt c i) (Abs.rowAt d k)
        have c2 := cmp_gt (Abs.rowAt c i) (Abs.rowAt d k)
        have hw2 : IntKind.wrap .i64 ((k : Int) + 1) = ((k + 1 : Nat) : Int) := nat_wrap h2 (by omega)
        have hi2 := inB_nat' h2
        have n1 : ¬ ((k : Int) = (d.length : Int)) := by omega
        have n2 : ¬ ((i : Int) = (c.length : Int)) := by omega
        by_cases hl : kLt (Abs.rowAt c i) (Abs.rowAt d k) = true
        · obtain ⟨m, hm⟩ := ih (i + 1) k (v ++ [Abs.rowAt c i]) (by omega) (by omega) hk (by simp; omega)
          refine ⟨m + 1, ?_⟩
          rw [e25_0, Int.toNat_natCast, Int.toNat_natCast, pr_at pc h1, hw1, hw2]
          refine ct (decide_eq_true (by omega)) (cf (beq_eq_false_iff_ne.2 n1) (ct (decide_eq_true (by omega)) (ct hi1 (ct hi2 (ct (c1.trans hl) (ct hi1 (ct (hf _) ?_)))))))
          rw [hm, ec, ed, mrgF, if_pos hl]
          simp
        · have hl' : kLt (Abs.rowAt c i) (Abs.rowAt d k) = false := by simpa using hl
          by_cases hg : kLt (Abs.rowAt d k) (Abs.rowAt c i) = true
          · obtain ⟨m, hm⟩ := ih i (k + 1) (v ++ [Abs.rowAt d k]) (by omega) hi (by omega) (by simp; omega)
            refine ⟨m + 1, ?_⟩
            rw [e25_0, Int.toNat_natCast, Int.toNat_natCast, pr_at pd h2, hw1, hw2]
            refine ct (decide_eq_true (by omega)) (cf (beq_eq_false_iff_ne.2 n1) (ct (decide_eq_true (by omega)) (ct hi1 (ct hi2 (cf (c1.trans hl') (cf (beq_eq_false_iff_ne.2 n2) (ct hi1 (ct hi2 (ct (c2.trans hg) (ct hi2 (ct (hf _) ?_)))))))))))
            rw [hm, ec, ed, mrgF, if_neg hl, if_pos hg]
            simp
          · have hg' : kLt (Abs.rowAt d k) (Abs.rowAt c i) = false := by simpa using hg
            obtain ⟨m, hm⟩ := ih (i + 1) (k + 1) (v ++ [Abs.rowAt c i]) (by omega) (by omega) (by omega) (by simp; omega)
            refine ⟨m + 1, ?_⟩
            rw [e25_0, Int.toNat_natCast, Int.toNat_natCast, pr_at pc h1, hw1, hw2]
            refine ct (decide_eq_true (by omega)) (cf (beq_eq_false_iff_ne.2 n1) (ct (decide_eq_true (by omega)) (ct hi1 (ct hi2 (cf (c1.trans hl') (cf (beq_eq_false_iff_ne.2 n2) (ct hi1 (ct hi2 (cf (c2.trans hg') (ct hi1 (ct (hf _) ?_)))))))))))
            rw [hm, ec, ed, mrgF, if_neg hl, if_neg hg]
            simp
      · -- the second is at its end
        have hk' : k = d.length := by omega
        subst hk'
        obtain ⟨m, hm⟩ := ih (i + 1) d.length (v ++ [Abs.rowAt c i]) (by omega) (by omega) (by omega) (by simp; omega)
        refine ⟨m + 1, ?_⟩
        rw [e25_0, Int.toNat_natCast, pr_at pc h1, hw1]
        refine ct (decide_eq_true (by omega)) (ct (beq_iff_eq.2 rfl) (ct hi1 (ct (hf _) ?_)))
        rw [hm, List.drop_length, mrgF_nilr _ _ (by rw [List.length_drop]; omega), mrgF_nilr _ _ (by rw [List.length_drop]; omega), ec]
        simp
    · have hi' : i = c.length := by omega
      subst hi'
      by_cases h2 : k < d.length
      · obtain ⟨n, rfl⟩ : ∃ n2, n = n2 + 1 := ⟨n - 1, by omega⟩
        obtain ⟨m, hm⟩ := ih c.length (k + 1) (v ++ [Abs.rowAt d k]) (by omega) (by omega) (by omega) (by simp; omega)
        refine ⟨m + 1, ?_⟩
        rw [e25_0, Int.toNat_natCast, Int.toNat_natCast, pr_at pd h2, nat_wrap (n := d.length) h2 (by omega)]
        refine cf (decide_eq_false (by omega)) (ct (decide_eq_true (by omega)) (cf (beq_eq_false_iff_ne.2 (by omega)) (cf (decide_eq_false (by omega)) (ct (beq_iff_eq.2 rfl) (ct (inB_nat' h2) (ct (fits_of (by simp; omega)) ?_))))))
        rw [hm, List.drop_length, drop_cons d k h2]
        simp [mrgF]
      · have hk' : k = d.length := by omega
        subst hk'
        refine ⟨1, ?_⟩
        rw [e25_0, List.drop_length, List.drop_length]
        refine cf (decide_eq_false (by omega)) (cf (decide_eq_false (by omega)) ?_)
        simp [mrgF]

theorem k25 (c d : List (List Cell)) (h : (okCf c && okCf d) = true) : ∃ m, runF E (callOf L22) m 25 [.one (.sl false 45 c), .one (.sl false 45 d)] [] = some ([.one (.sl false 45 (mrgK c d))], []) := by
  simp only [Bool.and_eq_true] at h
  obtain ⟨h1, h2⟩ := okCf_of h.1
  obtain ⟨h3, h4⟩ := okCf_of h.2
  obtain ⟨m, hm⟩ := l25 c d h1 h3 h2 h4 (c.length + d.length + 1) 0 0 [] (by omega) (by omega) (by omega) (by simp)
  exact ⟨m + 1, by rw [e25]; exact hm⟩

theorem l27 (c b : List (List Cell)) (hb : okLn b = true) (hc : c.length ≤ 1000) (hp : c.all isPR = true) : ∀ (d i : Nat) (v : List (List Cell)), i + d = c.length → v.length ≤ i →
    ∃ m, goF E (callOf L25) F27 0 m P27_0 (M27_0 c b v i) = some ([.one (.sl false 45 (v ++ meetK (c.drop i) b))], [])
  | 0, i, v, hi, hv => by
    refine ⟨1, ?_⟩
    rw [e27_0]
    have : c.drop i = [] := List.drop_eq_nil_of_le (by omega)
    rw [this]
    refine cf (decide_eq_false (by omega)) ?_
    simp [meetK]
  | d + 1, i, v, hi, hv => by
    have hi' : i < c.length := by omega
    by_cases hk : hasK b (Abs.rowAt c i) = true
    · obtain ⟨m, hm⟩ := l27 c b hb hc hp d (i + 1) (v ++ [Abs.rowAt c i]) (by omega) (by simp; omega)
      refine ⟨m + 1, ?_⟩
      have e1 : meetK (c.drop i) b = Abs.rowAt c i :: meetK (c.drop (i + 1)) b := by
        rw [drop_cons c i hi']
        unfold meetK
        rw [List.filter_cons, if_pos hk]
      rw [e27_0, Int.toNat_natCast, nat_wrap (n := c.length) hi' (by omega), pr_at hp hi', e1, hasK_prow]
      rw [List.append_assoc] at hm
      exact ct (decide_eq_true (by omega)) (ct (inB_nat' hi') (ct hb (ct hk (ct (inB_nat' hi') (ct (fits_of (by simp; omega)) hm)))))
    · obtain ⟨m, hm⟩ := l27 c b hb hc hp d (i + 1) v (by omega) (by omega)
      refine ⟨m + 1, ?_⟩
      have e1 : meetK (c.drop i) b = meetK (c.drop (i + 1)) b := by
        rw [drop_cons c i hi']
        unfold meetK
        rw [List.filter_cons, if_neg hk]
      rw [e27_0, Int.toNat_natCast, nat_wrap (n := c.length) hi' (by omega), e1, hasK_prow]
      exact ct (decide_eq_true (by omega)) (ct (inB_nat' hi') (ct hb (cf (by simpa using hk) hm)))

theorem k27 (c d : List (List Cell)) (h : (okCf c && okLn d) = true) : ∃ m, runF E (callOf L25) m 27 [.one (.sl false 45 c), .one (.sl false 45 d)] [] = some ([.one (.sl false 45 (meetK c d))], []) := by
  simp only [Bool.and_eq_true] at h
  obtain ⟨h1, h2⟩ := okCf_of h.1
  obtain ⟨m, hm⟩ := l27 c d h.2 h1 h2 c.length 0 [] (by omega) (by simp)
  exact ⟨m + 1, by rw [e27]; exact hm⟩

/- AGREEMENT -/

theorem in48 (c d : List (List Cell)) (hd : d.length ≤ 1000) (hs : shortRows c = true) (i : Nat) (hi : i < c.length) (hc : c.length ≤ 1000) (R : Bool) (hR : ∃ m, goF E (callOf L27) F48 0 m P48_0 (M48_0 c d ((i + 1 : Nat) : Int)) = some ([.one (.bool R)], [])) : ∀ (e k : Nat), k + e = d.length →
    ∃ m, goF E (callOf L27) F48 0 m P48_1 (M48_1 c d i k) = some ([.one (.bool (((d.drop k).all fun q => !kEq (Abs.rowAt c i) q || eqPR (Abs.rowAt c i) q) && R))], [])
  | 0, k, hk => by
    obtain ⟨m, hm⟩ := hR
    refine ⟨m + 1, ?_⟩
    have : d.drop k = [] := List.drop_eq_nil_of_le (by omega)
    rw [e48_1, this, nat_wrap (n := c.length) hi (by omega), hm]
    exact cf (decide_eq_false (by omega)) rfl
  | e + 1, k, hk => by
    have hk' : k < d.length := by omega
    obtain ⟨m, hm⟩ := in48 c d hd hs i hi hc R hR e (k + 1) (by omega)
    refine ⟨m + 1, ?_⟩
    have c1 := cmp_eq (Abs.rowAt c i) (Abs.rowAt d k)
    rw [e48_1, Int.toNat_natCast, Int.toNat_natCast, drop_cons d k hk', List.all_cons, nat_wrap (n := d.length) hk' (by omega), hm]
    refine ct (decide_eq_true (by omega)) (ct (inB_nat' hi) (ct (inB_nat' hk') ?_))
    cases hq : kEq (Abs.rowAt c i) (Abs.rowAt d k) with
    | false =>
      refine cf (c1.trans hq) ?_
      rfl
    | true =>
      refine ct (c1.trans hq) (ct (inB_nat' hi) (ct (inB_nat' hk') (ct (decide_eq_true (short_at hs hi)) ?_)))
      show cond (!(eqPR (Abs.rowAt c i) (Abs.rowAt d k))) _ _ = _
      cases eqPR (Abs.rowAt c i) (Abs.rowAt d k) <;> rfl

theorem l48 (c d : List (List Cell)) (hc : c.length ≤ 1000) (hd : d.length ≤ 1000) (hs : shortRows c = true) : ∀ (e i : Nat), i + e = c.length →
    ∃ m, goF E (callOf L27) F48 0 m P48_0 (M48_0 c d i) = some ([.one (.bool (agrC (c.drop i) d))], [])
  | 0, i, hi => by
    refine ⟨1, ?_⟩
    have : c.drop i = [] := List.drop_eq_nil_of_le (by omega)
    rw [e48_0, this]
    exact cf (decide_eq_false (by omega)) rfl
  | e + 1, i, hi => by
    have hi' : i < c.length := by omega
    obtain ⟨m, hm⟩ := in48 c d hd hs i hi' hc _ (l48 c d hc hd hs e (i + 1) (by omega)) d.length 0 (by omega)
    refine ⟨m + 1, ?_⟩
    rw [e48_0, drop_cons c i hi']
    exact ct (decide_eq_true (by omega)) hm

theorem k48 (c d : List (List Cell)) (h : (okRows c && okLn d) = true) : ∃ m, runF E (callOf L27) m 48 [.one (.sl false 45 c), .one (.sl false 45 d)] [] = some ([.one (.bool (agrC c d))], []) := by
  simp only [Bool.and_eq_true] at h
  obtain ⟨h1, h2⟩ := okRows_of h.1
  obtain ⟨m, hm⟩ := l48 c d h1 (okLn_of h.2) h2 c.length 0 (by omega)
  exact ⟨m + 1, by rw [e48]; exact hm⟩

theorem okCs_at {l : List (List Cell)} (h : okCs l = true) {i : Nat} (hi : i < l.length) : okRows (nl (Abs.rowAt l i) 0) = true := by
  unfold okCs at h
  simp only [Bool.and_eq_true] at h
  exact List.all_eq_true.1 h.2 _ (rowAt_mem hi)

theorem in15 (l : List (List Cell)) (ho : okCs l = true) (i : Nat) (hi : i < l.length) (hl : l.length ≤ 1000) (R : Bool) (hR : ∃ m, goF E (callOf L48) F15 0 m P15_0 (M15_0 l ((i + 1 : Nat) : Int)) = some ([.one (.bool R)], [])) : ∀ (e k : Nat), k + e = i →
    ∃ m, goF E (callOf L48) F15 0 m P15_1 (M15_1 l i k) = some ([.one (.bool ((((l.take i).drop k).all fun y => agrC (nl (Abs.rowAt l i) 0) (nl y 0)) && R))], [])
  | 0, k, hk => by
    obtain ⟨m, hm⟩ := hR
    refine ⟨m + 1, ?_⟩
    have : (l.take i).drop k = [] := List.drop_eq_nil_of_le (by simp; omega)
    rw [e15_1, this, nat_wrap (n := l.length) hi (by omega), hm]
    exact cf (decide_eq_false (by omega)) rfl
  | e + 1, k, hk => by
    have hk' : k < (l.take i).length := by simp; omega
    obtain ⟨m, hm⟩ := in15 l ho i hi hl R hR e (k + 1) (by omega)
    refine ⟨m + 1, ?_⟩
    have h1 := okCs_at ho hi
    have h2 := okCs_at ho (show k < l.length by omega)
    have h3 : okLn (nl (Abs.rowAt l k) 0) = true := okLn_mk (okRows_of h2).1
    rw [e15_1, Int.toNat_natCast, Int.toNat_natCast, drop_cons (l.take i) k hk', List.all_cons, nat_wrap (n := l.length) (show k < l.length by omega) (by omega), hm, rowAt_take l i k (by omega)]
    refine ct (decide_eq_true (by omega)) (ct (inB_nat' hi) (ct (inB_nat' (by omega)) (ct (by rw [h1, h3]; rfl) ?_)))
    cases agrC (nl (Abs.rowAt l i) 0) (nl (Abs.rowAt l k) 0) <;> rfl

theorem l15 (l : List (List Cell)) (ho : okCs l = true) (hl : l.length ≤ 1000) : ∀ (e i : Nat), i + e = l.length →
    ∃ m, goF E (callOf L48) F15 0 m P15_0 (M15_0 l i) = some ([.one (.bool (validF (l.take i) (l.drop i)))], [])
  | 0, i, hi => by
    refine ⟨1, ?_⟩
    have : l.drop i = [] := List.drop_eq_nil_of_le (by omega)
    rw [e15_0, this]
    exact cf (decide_eq_false (by omega)) rfl
  | e + 1, i, hi => by
    have hi' : i < l.length := by omega
    obtain ⟨m, hm⟩ := in15 l ho i hi' hl _ (l15 l ho hl e (i + 1) (by omega)) i 0 (by omega)
    refine ⟨m + 1, ?_⟩
    rw [List.drop_zero] at hm
    rw [e15_0, Int.toNat_natCast, drop_cons l i hi', validF, ← take_snoc l i hi']
    refine ct (decide_eq_true (by omega)) (ct (inB_nat' hi') (ct (okCs_at ho hi') ?_))
    by_cases hv : vCfg (nl (Abs.rowAt l i) 0) = 0
    · rw [decide_eq_true hv, Bool.true_and]
      exact cf (by simpa using hv) hm
    · rw [decide_eq_false hv, Bool.false_and]
      exact ct (by simpa using hv) rfl

theorem k15 (l : List (List Cell)) (h : okCs l = true) : ∃ m, runF E (callOf L48) m 15 [.one (.sl false 23 l)] [] = some ([.one (.bool (validCs l))], []) := by
  have h' := h
  unfold okCs at h'
  simp only [Bool.and_eq_true, decide_eq_true_eq] at h'
  obtain ⟨m, hm⟩ := l15 l h h'.1 l.length 0 (by omega)
  exact ⟨m + 1, by rw [e15]; exact hm⟩

/- VECTORS -/

theorem l50 (v : List (List Cell)) (a : Int) (hv : v.length ≤ 1000) : ∀ (d i : Nat), i + d = v.length →
    ∃ m, goF E (callOf L15) F50 0 m P50_0 (M50_0 v a i) = some ([.one (.int .i64 (cntV (v.drop i) a))], [])
  | 0, i, hi => by
    refine ⟨1, ?_⟩
    have : v.drop i = [] := List.drop_eq_nil_of_le (by omega)
    rw [e50_0, this]
    exact cf (decide_eq_false (by omega)) rfl
  | d + 1, i, hi => by
    have hi' : i < v.length := by omega
    obtain ⟨m, hm⟩ := l50 v a hv d (i + 1) (by omega)
    refine ⟨m + 1, ?_⟩
    rw [e50_0, Int.toNat_natCast, drop_cons v i hi', cntV, nat_wrap (n := v.length) hi' (by omega), hm]
    refine ct (decide_eq_true (by omega)) (ct (inB_nat' hi') ?_)
    by_cases h : nr (Abs.rowAt v i) 0 = a
    · rw [if_pos h]
      exact ct (beq_iff_eq.2 h) (ct (inB_nat' hi') rfl)
    · rw [if_neg h]
      exact cf (beq_eq_false_iff_ne.2 h) rfl

theorem k50 (v : List (List Cell)) (a : Int) (h : okLn v = true) : ∃ m, runF E (callOf L15) m 50 [.one (.sl false 67 v), .one (.int .i64 a)] [] = some ([.one (.int .i64 (cntV v a))], []) := by
  obtain ⟨m, hm⟩ := l50 v a (okLn_of h) v.length 0 (by omega)
  exact ⟨m + 1, by rw [e50]; exact hm⟩

theorem en_at {v : List (List Cell)} (h : v.all isEn = true) {i : Nat} (hi : i < v.length) : [Cell.int .i64 (nr (Abs.rowAt v i) 0), Cell.int .i64 (nr (Abs.rowAt v i) 1)] = Abs.rowAt v i :=
  (isEn_eq (List.all_eq_true.1 h _ (rowAt_mem hi))).symm

theorem l49 (v : List (List Cell)) (a k : Int) (hv : v.length ≤ 100000) (he : v.all isEn = true) : ∀ (d i : Nat) (p : Bool) (acc : List (List Cell)), i + d = v.length → acc.length ≤ i + (cond p 1 0) →
    ∃ m, goF E (callOf L50) F49 0 m P49_0 (M49_0 v a k acc p i) = some ([.one (.sl false 67 (acc ++ withF a k p (v.drop i)))], [])
  | 0, i, p, acc, hi, ha => by
    have ha' : acc.length ≤ i + 1 := by cases p <;> simp at ha <;> omega
    refine ⟨1, ?_⟩
    have : v.drop i = [] := List.drop_eq_nil_of_le (by omega)
    rw [e49_0, this]
    refine cf (decide_eq_false (by omega)) ?_
    cases p with
    | false => exact ct rfl (ct (fits_of (by simp; omega)) rfl)
    | true =>
      refine cf rfl ?_
      simp [withF]
  | d + 1, i, p, acc, hi, ha => by
    have ha' : acc.length ≤ i + 1 := by cases p <;> simp at ha <;> omega
    have hi' : i < v.length := by omega
    have hib := inB_nat' hi'
    have hen := en_at he hi'
    have hf1 : ∀ r : List Cell, fits (acc.length + [r].length) = true := fun r => fits_of (by simp; omega)
    have hf2 : ∀ r q : List Cell, fits ((acc ++ [r]).length + [q].length) = true := fun r q => fits_of (by simp; omega)
    have hw : IntKind.wrap .i64 ((i : Int) + 1) = ((i + 1 : Nat) : Int) := nat_wrap hi' (by omega)
    have hd := drop_cons v i hi'
    -- the entry is copied, or passed over
    have tailc : ∀ (q : Bool), acc.length ≤ i + (cond q 1 0) → ∃ m, cond (inB (i : Int) v.length) (cond ((nr (Abs.rowAt v i) 0) != a) (cond (inB (i : Int) v.length) (cond (fits (acc.length + [Abs.rowAt v i].length))
        (goF E (callOf L50) F49 0 m P49_0 (M49_0 v a k (acc ++ [Abs.rowAt v i]) q ((i + 1 : Nat) : Int))) none) none) (goF E (callOf L50) F49 0 m P49_0 (M49_0 v a k acc q ((i + 1 : Nat) : Int)))) none =
        some ([.one (.sl false 67 (acc ++ (if nr (Abs.rowAt v i) 0 = a then withF a k q (v.drop (i + 1)) else Abs.rowAt v i :: withF a k q (v.drop (i + 1)))))], []) := fun q hq => by
      by_cases h : nr (Abs.rowAt v i) 0 = a
      · obtain ⟨m, hm⟩ := l49 v a k hv he d (i + 1) q acc (by omega) (by cases q <;> simp at hq ⊢ <;> omega)
        refine ⟨m, ?_⟩
        rw [if_pos h]
        exact ct hib (cf (bne_eq_false_iff_eq.2 h) hm)
      · obtain ⟨m, hm⟩ := l49 v a k hv he d (i + 1) q (acc ++ [Abs.rowAt v i]) (by omega) (by cases q <;> simp at hq ⊢ <;> omega)
        refine ⟨m, ?_⟩
        rw [if_neg h]
        rw [List.append_assoc] at hm
        exact ct hib (ct (bne_iff_ne.2 h) (ct hib (ct (hf1 _) hm)))
    cases p with
    | true =>
      obtain ⟨m, hm⟩ := tailc true ha
      refine ⟨m + 1, ?_⟩
      rw [e49_0, Int.toNat_natCast, hen, hw, hd, withF, if_neg (by simp)]
      exact ct (decide_eq_true (by omega)) (cf rfl hm)
    | false =>
      by_cases hge : a ≤ nr (Abs.rowAt v i) 0
      · by_cases h : nr (Abs.rowAt v i) 0 = a
        · obtain ⟨m, hm⟩ := l49 v a k hv he d (i + 1) true (acc ++ [ent a k]) (by omega) (by simp at ha ⊢; omega)
          refine ⟨m + 1, ?_⟩
          rw [e49_0, Int.toNat_natCast, hen, hw, hd, withF, if_pos ⟨rfl, hge⟩, if_pos h]
          rw [List.append_assoc] at hm
          exact ct (decide_eq_true (by omega)) (ct rfl (ct hib (ct (decide_eq_true hge) (ct (hf1 _) (ct hib (cf (bne_eq_false_iff_eq.2 h) hm))))))
        · obtain ⟨m, hm⟩ := l49 v a k hv he d (i + 1) true ((acc ++ [ent a k]) ++ [Abs.rowAt v i]) (by omega) (by simp at ha ⊢; omega)
          refine ⟨m + 1, ?_⟩
          rw [e49_0, Int.toNat_natCast, hen, hw, hd, withF, if_pos ⟨rfl, hge⟩, if_neg h]
          rw [List.append_assoc, List.append_assoc] at hm
          refine ct (decide_eq_true (by omega)) (ct rfl (ct hib (ct (decide_eq_true hge) (ct (hf1 _) (ct hib (ct (bne_iff_ne.2 h) (ct hib (ct (hf2 _ _) ?_))))))))
          rw [← List.append_assoc] at hm
          exact hm
      · obtain ⟨m, hm⟩ := tailc false ha
        refine ⟨m + 1, ?_⟩
        rw [e49_0, Int.toNat_natCast, hen, hw, hd, withF, if_neg (fun hh => hge hh.2)]
        exact ct (decide_eq_true (by omega)) (ct rfl (ct hib (cf (decide_eq_false hge) hm)))

theorem okEv_of {v : List (List Cell)} (h : okEv v = true) : v.length ≤ 100000 ∧ v.all isEn = true := by
  unfold okEv at h
  simp only [Bool.and_eq_true, decide_eq_true_eq] at h
  exact h

theorem k49 (v : List (List Cell)) (a k : Int) (h : okEv v = true) : ∃ m, runF E (callOf L50) m 49 [.one (.sl false 67 v), .one (.int .i64 a), .one (.int .i64 k)] [] = some ([.one (.sl false 67 (withV v a k))], []) := by
  obtain ⟨h1, h2⟩ := okEv_of h
  unfold withV
  by_cases g1 : a < 1
  · exact ⟨1, by rw [e49, if_pos (.inl g1)]; exact ct (decide_eq_true g1) rfl⟩
  · by_cases g2 : k < 0
    · exact ⟨1, by rw [e49, if_pos (.inr (.inl g2))]; exact cf (decide_eq_false g1) (ct (decide_eq_true g2) rfl)⟩
    · by_cases g3 : 1000000 < k
      · exact ⟨1, by rw [e49, if_pos (.inr (.inr g3))]; exact cf (decide_eq_false g1) (cf (decide_eq_false g2) (ct (decide_eq_true g3) rfl))⟩
      · obtain ⟨m, hm⟩ := l49 v a k h1 h2 v.length 0 (decide (k = 0)) [] (by omega) (by simp)
        refine ⟨m + 1, ?_⟩
        have e : (k == 0) = decide (k = 0) := by rw [Bool.eq_iff_iff, beq_iff_eq, decide_eq_true_eq]
        rw [e49, if_neg (fun hh => by omega), e]
        exact cf (decide_eq_false g1) (cf (decide_eq_false g2) (cf (decide_eq_false g3) hm))

theorem withF_ok {a k : Int} (hk0 : 0 ≤ k) (hk : k ≤ 1000000) : ∀ (v : List (List Cell)) (p : Bool), CntOk v 1000000 → CntOk (withF a k p v) 1000000 ∧ (withF a k p v).length ≤ v.length + 1 ∧ (p = true → (withF a k p v).length ≤ v.length)
  | [], p, h => by
    cases p
    · refine ⟨fun e he => ?_, by simp [withF], by simp⟩
      simp only [withF, Bool.false_eq_true, if_false, List.mem_singleton] at he
      subst he
      exact ⟨rfl, hk0, hk⟩
    · exact ⟨h, by simp [withF], by simp [withF]⟩
  | e :: v, p, h => by
    have he := h e List.mem_cons_self
    have hv : CntOk v 1000000 := fun x hx => h x (List.mem_cons_of_mem _ hx)
    have h1 := withF_ok (a := a) hk0 hk v true hv
    have h2 := withF_ok (a := a) hk0 hk v p hv
    unfold withF
    split
    · rename_i hp
      split
      · refine ⟨fun x hx => ?_, ?_, fun hh => by rw [hp.1] at hh; cases hh⟩
        · rcases List.mem_cons.1 hx with rfl | hx
          · exact ⟨rfl, hk0, hk⟩
          · exact h1.1 x hx
        · have := h1.2.2 rfl
          simp only [List.length_cons]
          omega
      · refine ⟨fun x hx => ?_, ?_, fun hh => by rw [hp.1] at hh; cases hh⟩
        · rcases List.mem_cons.1 hx with rfl | hx
          · exact ⟨rfl, hk0, hk⟩
          · rcases List.mem_cons.1 hx with rfl | hx
            · exact he
            · exact h1.1 x hx
        · have := h1.2.2 rfl
          simp only [List.length_cons]
          omega
    · split
      · refine ⟨h2.1, ?_, fun hh => ?_⟩
        · have := h2.2.1
          simp only [List.length_cons]
          omega
        · have := h2.2.2 hh
          simp only [List.length_cons]
          omega
      · refine ⟨fun x hx => ?_, ?_, fun hh => ?_⟩
        · rcases List.mem_cons.1 hx with rfl | hx
          · exact he
          · exact h2.1 x hx
        · have := h2.2.1
          simp only [List.length_cons]
          omega
        · have := h2.2.2 hh
          simp only [List.length_cons]
          omega

theorem withV_ok {v : List (List Cell)} (h : CntOk v 1000000) (a k : Int) : CntOk (withV v a k) 1000000 ∧ (withV v a k).length ≤ v.length + 1 := by
  unfold withV
  split
  · exact ⟨h, by omega⟩
  · rename_i hh
    have := withF_ok (a := a) (k := k) (by omega) (by omega) v (decide (k = 0)) h
    exact ⟨this.1, this.2.1⟩

theorem cnt_en {v : List (List Cell)} {k : Nat} (h : CntOk v k) : v.all isEn = true := List.all_eq_true.2 fun e he => (h e he).1

theorem l18 (c : List (List Cell)) (hc : c.length ≤ 1000) : ∀ (d i : Nat) (v : List (List Cell)), i + d = c.length → v.length ≤ i → CntOk v 1000000 →
    ∃ m, goF E (callOf L49) F18 0 m P18_0 (M18_0 c v i) = some ([.one (.sl false 67 (vecRF v (c.drop i)))], [])
  | 0, i, v, hi, hv, ho => by
    refine ⟨1, ?_⟩
    have : c.drop i = [] := List.drop_eq_nil_of_le (by omega)
    rw [e18_0, this]
    exact cf (decide_eq_false (by omega)) rfl
  | d + 1, i, v, hi, hv, ho => by
    have hi' : i < c.length := by omega
    have hw := withV_ok ho (nr (Abs.rowAt c i) 0) (cntV v (nr (Abs.rowAt c i) 0) + 1)
    obtain ⟨m, hm⟩ := l18 c hc d (i + 1) (withV v (nr (Abs.rowAt c i) 0) (cntV v (nr (Abs.rowAt c i) 0) + 1)) (by omega) (by omega) hw.1
    refine ⟨m + 1, ?_⟩
    have e1 : vecRF v (c.drop i) = vecRF (withV v (nr (Abs.rowAt c i) 0) (cntV v (nr (Abs.rowAt c i) 0) + 1)) (c.drop (i + 1)) := by rw [drop_cons c i hi']; rfl
    have hcnt := cntV_bound ho (nr (Abs.rowAt c i) 0)
    rw [e18_0, Int.toNat_natCast, e1, nat_wrap (n := c.length) hi' (by omega), wrap64 (n := cntV v (nr (Abs.rowAt c i) 0) + 1) (by omega) (by omega)]
    have hev : okEv v = true := by
      unfold okEv
      simp only [Bool.and_eq_true, decide_eq_true_eq]
      exact ⟨by omega, cnt_en ho⟩
    exact ct (decide_eq_true (by omega)) (ct (inB_nat' hi') (ct (inB_nat' hi') (ct (okLn_mk (by omega)) (ct hev hm))))

theorem k18 (c : List (List Cell)) (h : okLn c = true) : ∃ m, runF E (callOf L49) m 18 [.one (.sl false 45 c)] [] = some ([.one (.sl false 67 (vecR c))], []) := by
  obtain ⟨m, hm⟩ := l18 c (okLn_of h) c.length 0 [] (by omega) (by simp) (fun e he => by cases he)
  exact ⟨m + 1, by rw [e18]; exact hm⟩

theorem l16 (v w : List (List Cell)) (hv : v.length ≤ 1000) (hl : v.length = w.length) : ∀ (d i : Nat), i + d = v.length →
    ∃ m, goF E (callOf L18) F16 0 m P16_0 (M16_0 v w i) = some ([.one (.bool (eqVF (v.drop i) (w.drop i)))], [])
  | 0, i, hi => by
    refine ⟨1, ?_⟩
    have : v.drop i = [] := List.drop_eq_nil_of_le (by omega)
    rw [e16_0, this]
    exact cf (decide_eq_false (by omega)) rfl
  | d + 1, i, hi => by
    have hi' : i < v.length := by omega
    obtain ⟨m, hm⟩ := l16 v w hv hl d (i + 1) (by omega)
    refine ⟨m + 1, ?_⟩
    rw [e16_0, Int.toNat_natCast, drop_cons v i hi', eqVF, nat_wrap (n := v.length) hi' (by omega), hm, rowAt_drop, List.drop_drop, Nat.add_zero]
    refine ct (decide_eq_true (by omega)) (ct (inB_nat' hi') (ct (inB_nat' (by omega)) ?_))
    have e1 : ((nr (Abs.rowAt v i) 0) == (nr (Abs.rowAt w i) 0)) = decide (nr (Abs.rowAt v i) 0 = nr (Abs.rowAt w i) 0) := by rw [Bool.eq_iff_iff, beq_iff_eq, decide_eq_true_eq]
    have e2 : ((nr (Abs.rowAt v i) 1) == (nr (Abs.rowAt w i) 1)) = decide (nr (Abs.rowAt v i) 1 = nr (Abs.rowAt w i) 1) := by rw [Bool.eq_iff_iff, beq_iff_eq, decide_eq_true_eq]
    rw [e1, e2, Bool.and_true]
    cases (decide (nr (Abs.rowAt v i) 0 = nr (Abs.rowAt w i) 0) && decide (nr (Abs.rowAt v i) 1 = nr (Abs.rowAt w i) 1)) <;> rfl

theorem k16 (v w : List (List Cell)) (h : okLn v = true) : ∃ m, runF E (callOf L18) m 16 [.one (.sl false 67 v), .one (.sl false 67 w)] [] = some ([.one (.bool (eqVec v w))], []) := by
  unfold eqVec
  by_cases hl : v.length = w.length
  · obtain ⟨m, hm⟩ := l16 v w (okLn_of h) hl v.length 0 (by omega)
    refine ⟨m + 1, ?_⟩
    rw [e16, decide_eq_true hl]
    exact cf (bne_eq_false_iff_eq.2 (by omega)) hm
  · refine ⟨1, ?_⟩
    rw [e16, decide_eq_false hl]
    exact ct (bne_iff_ne.2 (by omega)) rfl

theorem okJn_of {v w : List (List Cell)} (h : okJn v w = true) : v.length + w.length ≤ 1000 ∧ v.all isEn = true := by
  unfold okJn at h
  simp only [Bool.and_eq_true, decide_eq_true_eq] at h
  exact h

theorem withF_en {a k : Int} : ∀ (v : List (List Cell)) (p : Bool), v.all isEn = true → (withF a k p v).all isEn = true ∧ (withF a k p v).length ≤ v.length + 1 ∧ (p = true → (withF a k p v).length ≤ v.length)
  | [], p, h => by
    cases p
    · exact ⟨rfl, by simp [withF], by simp⟩
    · exact ⟨h, by simp [withF], by simp [withF]⟩
  | e :: v, p, h => by
    rw [List.all_cons, Bool.and_eq_true] at h
    have h1 := withF_en (a := a) (k := k) v true h.2
    have h2 := withF_en (a := a) (k := k) v p h.2
    have he : isEn (ent a k) = true := rfl
    unfold withF
    split
    · rename_i hp
      have := h1.2.2 rfl
      split
      · refine ⟨by rw [List.all_cons, he, h1.1]; rfl, by simp only [List.length_cons]; omega, fun hh => by rw [hp.1] at hh; cases hh⟩
      · refine ⟨by rw [List.all_cons, List.all_cons, he, h.1, h1.1]; rfl, by simp only [List.length_cons]; omega, fun hh => by rw [hp.1] at hh; cases hh⟩
    · split
      · refine ⟨h2.1, ?_, fun hh => ?_⟩
        · have := h2.2.1
          simp only [List.length_cons]
          omega
        · have := h2.2.2 hh
          simp only [List.length_cons]
          omega
      · refine ⟨by rw [List.all_cons, h.1, h2.1]; rfl, ?_, fun hh => ?_⟩
        · have := h2.2.1
          simp only [List.length_cons]
          omega
        · have := h2.2.2 hh
          simp only [List.length_cons]
          omega

theorem withV_en {v : List (List Cell)} (h : v.all isEn = true) (a k : Int) : (withV v a k).all isEn = true ∧ (withV v a k).length ≤ v.length + 1 := by
  unfold withV
  split
  · exact ⟨h, by omega⟩
  · have := withF_en (a := a) (k := k) v (decide (k = 0)) h
    exact ⟨this.1, this.2.1⟩

theorem l30 (w : List (List Cell)) : ∀ (d i : Nat) (v : List (List Cell)), i + d = w.length → v.length + d ≤ 1000 → w.length ≤ 1000 → v.all isEn = true →
    ∃ m, goF E (callOf L16) F30 0 m P30_0 (M30_0 w v i) = some ([.one (.sl false 67 (joinF v (w.drop i)))], [])
  | 0, i, v, hi, hv, hw, he => by
    refine ⟨1, ?_⟩
    have : w.drop i = [] := List.drop_eq_nil_of_le (by omega)
    rw [e30_0, this]
    exact cf (decide_eq_false (by omega)) rfl
  | d + 1, i, v, hi, hv, hw, he => by
    have hi' : i < w.length := by omega
    have hib := inB_nat' hi'
    have hen := withV_en he (nr (Abs.rowAt w i) 0) (nr (Abs.rowAt w i) 1)
    by_cases hc : cntV v (nr (Abs.rowAt w i) 0) < nr (Abs.rowAt w i) 1
    · obtain ⟨m, hm⟩ := l30 w d (i + 1) (withV v (nr (Abs.rowAt w i) 0) (nr (Abs.rowAt w i) 1)) (by omega) (by omega) hw hen.1
      refine ⟨m + 1, ?_⟩
      have e1 : joinF v (w.drop i) = joinF (withV v (nr (Abs.rowAt w i) 0) (nr (Abs.rowAt w i) 1)) (w.drop (i + 1)) := by
        rw [drop_cons w i hi']
        unfold joinF
        rw [List.foldl_cons, if_pos hc]
      have hev : okEv v = true := by
        unfold okEv
        simp only [Bool.and_eq_true, decide_eq_true_eq]
        exact ⟨by omega, he⟩
      rw [e30_0, Int.toNat_natCast, e1, nat_wrap (n := w.length) hi' (by omega)]
      exact ct (decide_eq_true (by omega)) (ct hib (ct hib (ct (okLn_mk (by omega)) (ct (decide_eq_true hc) (ct hib (ct hib (ct hev hm)))))))
    · obtain ⟨m, hm⟩ := l30 w d (i + 1) v (by omega) (by omega) hw he
      refine ⟨m + 1, ?_⟩
      have e1 : joinF v (w.drop i) = joinF v (w.drop (i + 1)) := by
        rw [drop_cons w i hi']
        unfold joinF
        rw [List.foldl_cons, if_neg hc]
      rw [e30_0, Int.toNat_natCast, e1, nat_wrap (n := w.length) hi' (by omega)]
      exact ct (decide_eq_true (by omega)) (ct hib (ct hib (ct (okLn_mk (by omega)) (cf (decide_eq_false hc) hm))))

theorem k30 (v w : List (List Cell)) (h : okJn v w = true) : ∃ m, runF E (callOf L16) m 30 [.one (.sl false 67 v), .one (.sl false 67 w)] [] = some ([.one (.sl false 67 (joinV v w))], []) := by
  obtain ⟨h1, h2⟩ := okJn_of h
  obtain ⟨m, hm⟩ := l30 w w.length 0 v (by omega) (by omega) (by omega) h2
  exact ⟨m + 1, by rw [e30]; exact ct (fits_of (by simp; omega)) hm⟩

theorem min_if (x y : Int) : (if y < x then y else x) = min x y := by
  split <;> omega

theorem l31 (v w : List (List Cell)) (hv : v.length ≤ 1000) (hw : okLn w = true) : ∀ (d i : Nat) (acc : List (List Cell)), i + d = v.length → acc.length ≤ i →
    ∃ m, goF E (callOf L30) F31 0 m P31_0 (M31_0 v w acc i) = some ([.one (.sl false 67 (acc ++ meetV (v.drop i) w))], [])
  | 0, i, acc, hi, ha => by
    refine ⟨1, ?_⟩
    have : v.drop i = [] := List.drop_eq_nil_of_le (by omega)
    rw [e31_0, this]
    refine cf (decide_eq_false (by omega)) ?_
    simp [meetV]
  | d + 1, i, acc, hi, ha => by
    have hi' : i < v.length := by omega
    have hib := inB_nat' hi'
    have e1 : meetV (v.drop i) w = meetV1 w (Abs.rowAt v i) ++ meetV (v.drop (i + 1)) w := by
      rw [drop_cons v i hi']
      simp [meetV]
    by_cases hc : 0 < min (nr (Abs.rowAt v i) 1) (cntV w (nr (Abs.rowAt v i) 0))
    · have e2 : meetV1 w (Abs.rowAt v i) = [ent (nr (Abs.rowAt v i) 0) (min (nr (Abs.rowAt v i) 1) (cntV w (nr (Abs.rowAt v i) 0)))] := by
        unfold meetV1
        rw [if_pos hc]
      obtain ⟨m, hm⟩ := l31 v w hv hw d (i + 1) (acc ++ [ent (nr (Abs.rowAt v i) 0) (min (nr (Abs.rowAt v i) 1) (cntV w (nr (Abs.rowAt v i) 0)))]) (by omega) (by simp; omega)
      refine ⟨m + 1, ?_⟩
      rw [e31_0, Int.toNat_natCast, min_if, e1, e2, nat_wrap (n := v.length) hi' (by omega), ← List.append_assoc]
      exact ct (decide_eq_true (by omega)) (ct hib (ct hib (ct hw (ct (decide_eq_true hc) (ct hib (ct (fits_of (by simp; omega)) hm))))))
    · have e2 : meetV1 w (Abs.rowAt v i) = [] := by
        unfold meetV1
        rw [if_neg hc]
      obtain ⟨m, hm⟩ := l31 v w hv hw d (i + 1) acc (by omega) (by omega)
      refine ⟨m + 1, ?_⟩
      rw [e31_0, Int.toNat_natCast, min_if, e1, e2, nat_wrap (n := v.length) hi' (by omega), List.nil_append]
      exact ct (decide_eq_true (by omega)) (ct hib (ct hib (ct hw (cf (decide_eq_false hc) hm))))

theorem k31 (v w : List (List Cell)) (h : (okLn v && okLn w) = true) : ∃ m, runF E (callOf L30) m 31 [.one (.sl false 67 v), .one (.sl false 67 w)] [] = some ([.one (.sl false 67 (meetV v w))], []) := by
  simp only [Bool.and_eq_true] at h
  obtain ⟨m, hm⟩ := l31 v w (okLn_of h.1) h.2 v.length 0 [] (by omega) (by simp)
  exact ⟨m + 1, by rw [e31]; exact hm⟩

theorem l32 (v w : List (List Cell)) (hv : v.length ≤ 1000) (hw : okLn w = true) : ∀ (d i : Nat), i + d = v.length →
    ∃ m, goF E (callOf L31) F32 0 m P32_0 (M32_0 v w i) = some ([.one (.bool (leV (v.drop i) w))], [])
  | 0, i, hi => by
    refine ⟨1, ?_⟩
    have : v.drop i = [] := List.drop_eq_nil_of_le (by omega)
    rw [e32_0, this]
    exact cf (decide_eq_false (by omega)) rfl
  | d + 1, i, hi => by
    have hi' : i < v.length := by omega
    have hib := inB_nat' hi'
    obtain ⟨m, hm⟩ := l32 v w hv hw d (i + 1) (by omega)
    refine ⟨m + 1, ?_⟩
    unfold leV at hm ⊢
    rw [e32_0, Int.toNat_natCast, drop_cons v i hi', List.all_cons, nat_wrap (n := v.length) hi' (by omega), hm]
    refine ct (decide_eq_true (by omega)) (ct hib (ct hib (ct hw ?_)))
    by_cases h : cntV w (nr (Abs.rowAt v i) 0) < nr (Abs.rowAt v i) 1
    · refine ct (decide_eq_true h) ?_
      rw [decide_eq_true h]
      rfl
    · refine cf (decide_eq_false h) ?_
      rw [decide_eq_false h]
      rfl

theorem k32 (v w : List (List Cell)) (h : (okLn v && okLn w) = true) : ∃ m, runF E (callOf L31) m 32 [.one (.sl false 67 v), .one (.sl false 67 w)] [] = some ([.one (.bool (leV v w))], []) := by
  simp only [Bool.and_eq_true] at h
  obtain ⟨m, hm⟩ := l32 v w (okLn_of h.1) h.2 v.length 0 (by omega)
  exact ⟨m + 1, by rw [e32]; exact hm⟩

theorem l38 (v : List (List Cell)) (hv : v.length ≤ 1000) : ∀ (d i : Nat), i + d = v.length →
    ∃ m, goF E (callOf L32) F38 0 m P38_0 (M38_0 v i) = some ([.one (.int .i64 (vVecF (decide (i = 0)) (Abs.rowAt v (i - 1)) (v.drop i)))], [])
  | 0, i, hi => by
    refine ⟨1, ?_⟩
    have : v.drop i = [] := List.drop_eq_nil_of_le (by omega)
    rw [e38_0, this]
    exact cf (decide_eq_false (by omega)) rfl
  | d + 1, i, hi => by
    have hi' : i < v.length := by omega
    have hib := inB_nat' hi'
    obtain ⟨m, hm⟩ := l38 v hv d (i + 1) (by omega)
    rw [decide_eq_false (by omega : ¬ i + 1 = 0), Nat.add_sub_cancel] at hm
    refine ⟨m + 1, ?_⟩
    rw [e38_0, Int.toNat_natCast, drop_cons v i hi', vVecF, nat_wrap (n := v.length) hi' (by omega), hm]
    generalize Abs.rowAt v i = r
    refine ct (decide_eq_true (by omega)) (ct hib ?_)
    by_cases g1 : nr r 0 < 1
    · rw [if_pos (.inl g1)]
      exact ct (decide_eq_true g1) rfl
    · refine cf (decide_eq_false g1) (ct hib ?_)
      by_cases g2 : nr r 1 < 1
      · rw [if_pos (.inr (.inl g2))]
        exact ct (decide_eq_true g2) rfl
      · refine cf (decide_eq_false g2) (ct hib ?_)
        by_cases g3 : 1000000 < nr r 1
        · rw [if_pos (.inr (.inr g3))]
          exact ct (decide_eq_true g3) rfl
        · rw [if_neg (fun h => by omega)]
          refine cf (decide_eq_false g3) ?_
          by_cases h0 : i = 0
          · subst h0
            rw [decide_eq_true rfl, if_neg (by simp)]
            exact cf (decide_eq_false (by simp)) rfl
          · rw [wrap64 (n := (i : Int) - 1) (by omega) (by omega), show ((i : Int) - 1).toNat = i - 1 by omega, decide_eq_false h0]
            generalize Abs.rowAt v (i - 1) = q
            refine ct (decide_eq_true (by omega)) (ct (inB_of (by omega) (by omega)) (ct hib ?_))
            by_cases h2 : nr r 0 ≤ nr q 0
            · rw [if_pos ⟨rfl, h2⟩]
              exact ct (decide_eq_true h2) rfl
            · rw [if_neg (fun h => h2 h.2)]
              exact cf (decide_eq_false h2) rfl

theorem vVecF_first (q q' : List Cell) (l : List (List Cell)) : vVecF true q l = vVecF true q' l := by
  cases l <;> simp [vVecF]

theorem k38 (v : List (List Cell)) (h : okLn v = true) : ∃ m, runF E (callOf L32) m 38 [.one (.sl false 67 v)] [] = some ([.one (.int .i64 (vVec v))], []) := by
  obtain ⟨m, hm⟩ := l38 v (okLn_of h) v.length 0 (by omega)
  refine ⟨m + 1, ?_⟩
  rw [e38]
  refine Eq.trans hm ?_
  rw [decide_eq_true rfl, List.drop_zero, vVecF_first _ []]
  rfl

theorem l39 (c b : List (List Cell)) (hb : okLn b = true) (hc : c.length ≤ 1000) (hp : c.all isPR = true) : ∀ (d i : Nat) (v : List (List Cell)), i + d = c.length → v.length ≤ i →
    ∃ m, goF E (callOf L38) F39 0 m P39_0 (M39_0 c b v i) = some ([.one (.sl false 45 (v ++ restr (c.drop i) b))], [])
  | 0, i, v, hi, hv => by
    refine ⟨1, ?_⟩
    have : c.drop i = [] := List.drop_eq_nil_of_le (by omega)
    rw [e39_0, this]
    refine cf (decide_eq_false (by omega)) ?_
    simp [restr]
  | d + 1, i, v, hi, hv => by
    have hi' : i < c.length := by omega
    have hib := inB_nat' hi'
    by_cases hk : nr (Abs.rowAt c i) 1 ≤ cntV b (nr (Abs.rowAt c i) 0)
    · obtain ⟨m, hm⟩ := l39 c b hb hc hp d (i + 1) (v ++ [Abs.rowAt c i]) (by omega) (by simp; omega)
      refine ⟨m + 1, ?_⟩
      have e1 : restr (c.drop i) b = Abs.rowAt c i :: restr (c.drop (i + 1)) b := by
        rw [drop_cons c i hi']
        unfold restr
        rw [List.filter_cons, if_pos (decide_eq_true hk)]
      rw [e39_0, Int.toNat_natCast, nat_wrap (n := c.length) hi' (by omega), pr_at hp hi', e1]
      rw [List.append_assoc] at hm
      exact ct (decide_eq_true (by omega)) (ct hib (ct hib (ct hb (ct (decide_eq_true hk) (ct hib (ct (fits_of (by simp; omega)) hm))))))
    · obtain ⟨m, hm⟩ := l39 c b hb hc hp d (i + 1) v (by omega) (by omega)
      refine ⟨m + 1, ?_⟩
      have e1 : restr (c.drop i) b = restr (c.drop (i + 1)) b := by
        rw [drop_cons c i hi']
        unfold restr
        rw [List.filter_cons, if_neg (by simpa using hk)]
      rw [e39_0, Int.toNat_natCast, nat_wrap (n := c.length) hi' (by omega), e1]
      exact ct (decide_eq_true (by omega)) (ct hib (ct hib (ct hb (cf (decide_eq_false hk) hm))))

theorem k39 (c v : List (List Cell)) (h : (okCf c && okLn v) = true) : ∃ m, runF E (callOf L38) m 39 [.one (.sl false 45 c), .one (.sl false 67 v)] [] = some ([.one (.sl false 45 (restr c v))], []) := by
  simp only [Bool.and_eq_true] at h
  obtain ⟨h1, h2⟩ := okCf_of h.1
  obtain ⟨m, hm⟩ := l39 c v h.2 h1 h2 c.length 0 [] (by omega) (by simp)
  exact ⟨m + 1, by rw [e39]; exact hm⟩

theorem vecRF_inv : ∀ (c v : List (List Cell)), CntOk v 1000000 → CntOk (vecRF v c) 1000000 ∧ (vecRF v c).length ≤ v.length + c.length
  | [], v, h => ⟨h, Nat.le_refl _⟩
  | r :: c, v, h => by
    have hw := withV_ok h (nr r 0) (cntV v (nr r 0) + 1)
    have := vecRF_inv c (withV v (nr r 0) (cntV v (nr r 0) + 1)) hw.1
    show CntOk (vecRF (withV v (nr r 0) (cntV v (nr r 0) + 1)) c) _ ∧ _
    refine ⟨this.1, ?_⟩
    show (vecRF (withV v (nr r 0) (cntV v (nr r 0) + 1)) c).length ≤ _
    simp only [List.length_cons]
    omega

theorem vecR_cnt (c : List (List Cell)) : CntOk (vecR c) 1000000 ∧ (vecR c).length ≤ c.length := by
  have := vecRF_inv c [] (fun e he => by cases he)
  simpa [vecR] using this

theorem k35 (c : List (List Cell)) (a n : Int) (p : List (List Cell)) (h : okAdd c p = true) : runF E (callOf L39) 1 35 [.one (.sl false 45 c), .agg [.int .i64 a, .int .i64 n, .sl false 63 p]] [] = some ([.one (.sl false 45 (addR c a n p).1), .one (.int .i64 (addR c a n p).2)], []) := by
  unfold okAdd at h
  simp only [Bool.and_eq_true, decide_eq_true_eq] at h
  obtain ⟨h1, h2, h3⟩ := h
  have hs := okSrt_of h2
  have hb := vecR_cnt c
  have hc := cntV_bound hb.1 a
  have hcf : okCf c = true := by
    unfold okCl at h1
    simp only [Bool.and_eq_true] at h1
    exact h1.1
  rw [e35]
  unfold addR
  refine ct (decide_eq_true h3) ?_
  by_cases hv : vProp a n p = 0
  · rw [if_neg (by simpa using hv)]
    refine cf (by simpa using hv) (ct (okLn_mk hs.1) ?_)
    by_cases hh : hasK c (prow a n p) = true
    · rw [if_pos hh]
      exact ct hh rfl
    · rw [if_neg hh]
      refine cf (by simpa using hh) (ct (okLn_mk hs.1) (ct (okLn_mk (by omega)) ?_))
      rw [wrap64 (by omega) (by omega)]
      by_cases hn : n = cntV (vecR c) a + 1
      · rw [if_neg (by simpa using hn)]
        have hone : okCf [[Cell.int .i64 a, Cell.int .i64 n, Cell.slice 63 p]] = true := by simp [okCf, okLn, isPR]
        exact cf (by simpa using hn) (ct (by rw [hcf, hone]; rfl) rfl)
      · rw [if_pos hn]
        exact ct (by simpa using hn) rfl
  · rw [if_pos hv]
    exact ct (by simpa using hv) (ct (decide_eq_true h3) rfl)

theorem st29 (c : List (List Cell)) (n : Int) (a : Nat) (ha : a < 3) (acc : List (List Cell)) (hacc : acc.length ≤ 10) (R : List AV × List Block) (hR : ∃ m, goF E (callOf L35) F29 0 m P29_0 (M29_0 c n (acc ++ partV1 n a) ((a + 1 : Nat) : Int)) = some R) :
    ∃ m, goF E (callOf L35) F29 0 m P29_0 (M29_0 c n acc a) = some R := by
  obtain ⟨m, hm⟩ := hR
  refine ⟨m + 1, ?_⟩
  rw [e29_0, nat_wrap (n := 3) ha (by omega), wrap64 (n := 201 + (a : Int)) (by omega) (by omega)]
  refine ct (decide_eq_true (by omega)) (ct (by simp; omega) ?_)
  unfold partV1 at hm
  by_cases hg : 0 < gDigit n 4 a
  · rw [if_pos hg] at hm
    exact ct (decide_eq_true hg) (ct (by simp; omega) (ct (fits_of (by simp; omega)) hm))
  · rw [if_neg hg, List.append_nil] at hm
    exact cf (decide_eq_false hg) hm

theorem partV1_len (n : Int) (a : Nat) : (partV1 n a).length ≤ 1 := by
  unfold partV1
  split <;> simp

theorem partV_len (n : Int) : (partV n).length ≤ 3 := by
  have := partV1_len n 0
  have := partV1_len n 1
  have := partV1_len n 2
  unfold partV
  simp only [List.length_append]
  omega

theorem k29 (c : List (List Cell)) (n : Int) (h : okCf c = true) : ∃ m, runF E (callOf L35) m 29 [.one (.sl false 45 c), .one (.int .i64 n)] [] = some ([.one (.sl false 45 (gPart c n))], []) := by
  have h0 := partV1_len n 0
  have h1 := partV1_len n 1
  have h2 := partV1_len n 2
  obtain ⟨m, hm⟩ := st29 c n 0 (by omega) [] (by simp) _ (st29 c n 1 (by omega) _ (by simp; omega) _ (st29 c n 2 (by omega) _ (by simp; omega) _ ⟨1, by
    rw [e29_0]
    refine cf (decide_eq_false (by omega)) (ct (by rw [h, okLn_mk (by simp; omega)]; rfl) rfl)⟩))
  refine ⟨m + 1, ?_⟩
  rw [e29]
  refine Eq.trans hm ?_
  simp [gPart, partV]

end Go.Proofs.Ytohikghidhdhjaa
