/-
  The contracts of the functions of certificates; and the laws over them.
-/
import Derived.Test.YtdgijohgncchiaaCfg
namespace Go.Proofs.Ytdgijohgncchiaa
open Go.Abs

theorem k56 (aq nq : Int) (cq : List (List Cell)) (a n : Int) (l : List (List Cell)) (h : l.length < 9223372036854775808) :
    runF E (callOf L57) 1 56 [.agg [.int .i64 aq, .int .i64 nq, .sl false 50 cq], .one (.ptr 0 0)] [.var [.int .i64 a, .int .i64 n, .sl false 50 l]] = some ([.one (.bool (eqP a n l aq nq cq))], [.var [.int .i64 a, .int .i64 n, .sl false 50 l]]) := by
  rw [e56]
  exact ct (decide_eq_true h) rfl

theorem idxPF_range (a n : Int) (l : List (List Cell)) : ∀ (c : List (List Cell)) (i : Int), 0 ≤ i → (0 ≤ idxPF a n l i c ↔ inP a n l c = true)
  | [], i, h => by simp [idxPF, inP]
  | q :: c, i, h => by
    have ih := idxPF_range a n l c (i + 1) (by omega)
    unfold idxPF
    unfold inP at ih ⊢
    rw [List.any_cons]
    by_cases hr : isP a n l q = true
    · simp [hr, h]
    · rw [if_neg hr, ih]
      simp [hr]

theorem l79 (c : List (List Cell)) (a n : Int) (l : List (List Cell)) (hl : l.length < 9223372036854775808) (hc : c.length ≤ 1000) : ∀ (d i : Nat), i + d = c.length →
    ∃ m, goF E (callOf L56) F79 1 m P79_0 (M79_0 c c.length i a n l) = some ([.one (.int .i64 (idxPF a n l i (c.drop i)))], [.var [.int .i64 a, .int .i64 n, .sl false 50 l]])
  | 0, i, hi => by
    refine ⟨1, ?_⟩
    rw [e79_0]
    have : c.drop i = [] := List.drop_eq_nil_of_le (by omega)
    rw [this, idxPF]
    exact cf (decide_eq_false (by omega)) rfl
  | d + 1, i, hi => by
    obtain ⟨m, hm⟩ := l79 c a n l hl hc d (i + 1) (by omega)
    refine ⟨m + 1, ?_⟩
    rw [e79_0, drop_cons c i (by omega), idxPF, Int.toNat_natCast]
    refine ct (decide_eq_true (by omega)) (ct (inB_nat' (by omega)) (ct (decide_eq_true hl) ?_))
    show cond (isP a n l (Abs.rowAt c i)) _ _ = _
    by_cases hr : isP a n l (Abs.rowAt c i) = true
    · rw [if_pos hr]
      exact ct hr rfl
    · rw [if_neg hr, nat_wrap (n := c.length) (by omega) (by omega)]
      refine cf (by simpa using hr) ?_
      rw [hm]
      rfl

theorem okL_of {c l : List (List Cell)} (h : (okRows c && decide (l.length < 9223372036854775808)) = true) : okRows c = true ∧ l.length < 9223372036854775808 := by
  simpa using h

theorem k79 (c : List (List Cell)) (a n : Int) (l : List (List Cell)) (h : (okRows c && decide (l.length < 9223372036854775808)) = true) :
    ∃ m, runF E (callOf L56) m 79 [.one (.sl false 53 c), .one (.fn 56 [.ptr 0 0])] [.var [.int .i64 a, .int .i64 n, .sl false 50 l]] = some ([.one (.int .i64 (idxP a n l c))], [.var [.int .i64 a, .int .i64 n, .sl false 50 l]]) := by
  obtain ⟨h1, h2⟩ := okL_of h
  obtain ⟨m, hm⟩ := l79 c a n l h2 (okRows_of h1).1 c.length 0 (by omega)
  exact ⟨m + 1, by rw [e79]; exact hm⟩

theorem k55 (c : List (List Cell)) (a n : Int) (l : List (List Cell)) (h : (okRows c && decide (l.length < 9223372036854775808)) = true) :
    runF E (callOf L79) 1 55 [.one (.sl false 53 c), .one (.fn 56 [.ptr 0 0])] [.var [.int .i64 a, .int .i64 n, .sl false 50 l]] = some ([.one (.bool (inP a n l c))], [.var [.int .i64 a, .int .i64 n, .sl false 50 l]]) := by
  rw [e55]
  refine ct h ?_
  have h := idxPF_range a n l c 0 (by omega)
  refine congrArg (fun z => some ([AV.one (AC.bool z)], ([.var [.int .i64 a, .int .i64 n, .sl false 50 l]] : List Block))) ?_
  unfold idxP
  cases hc : inP a n l c
  · rw [hc] at h
    exact decide_eq_false (fun h0 => by cases h.1 h0)
  · rw [hc] at h
    exact decide_eq_true (h.2 rfl)

theorem l31 (c d : List (List Cell)) (hc : okRows c = true) (hd : okRows d = true) : ∀ (e i : Nat), i + e = d.length →
    ∃ m, goF E (callOf L55) F31 0 m P31_0 (M31_0 c d d.length i) = some ([.one (.bool (incl c (d.drop i)))], [])
  | 0, i, hi => by
    refine ⟨1, ?_⟩
    rw [e31_0]
    have : d.drop i = [] := List.drop_eq_nil_of_le (by omega)
    rw [this]
    exact cf (decide_eq_false (by omega)) rfl
  | e + 1, i, hi => by
    obtain ⟨hd1, hd2⟩ := okRows_of hd
    have hi' : i < d.length := by omega
    obtain ⟨m, hm⟩ := l31 c d hc hd e (i + 1) (by omega)
    have hs := short_at hd2 hi'
    refine ⟨m + 1, ?_⟩
    rw [e31_0, drop_cons d i hi', Int.toNat_natCast, nat_wrap (n := d.length) hi' (by omega), hm]
    refine ct (decide_eq_true (by omega)) (ct (inB_nat' hi') (ct (by rw [hc, decide_eq_true hs]; rfl) ?_))
    unfold incl
    rw [List.all_cons]
    generalize inP (nr (Abs.rowAt d i) 0) (nr (Abs.rowAt d i) 1) (nl (Abs.rowAt d i) 2) c = b
    cases b <;> rfl

theorem ok2_of {c d : List (List Cell)} (h : (okRows c && okRows d) = true) : okRows c = true ∧ okRows d = true := by
  simpa using h

theorem k31 (c d : List (List Cell)) (h : (okRows c && okRows d) = true) : ∃ m, runF E (callOf L55) m 31 [.one (.sl false 53 c), .one (.sl false 53 d)] [] = some ([.one (.bool (incl c d))], []) := by
  obtain ⟨h1, h2⟩ := ok2_of h
  obtain ⟨m, hm⟩ := l31 c d h1 h2 d.length 0 (by omega)
  exact ⟨m + 1, by rw [e31]; exact hm⟩

theorem eqCh_swap (a b c d e f g h i j k l m n : Int) : eqCh a b c d e f g h i j k l m n = eqCh h i j k l m n a b c d e f g := by
  rw [Bool.eq_iff_iff]
  simp only [eqCh, Bool.and_eq_true, beq_iff_eq]
  omega

theorem eqChs_swap : ∀ (c d : List (List Cell)), c.length = d.length → eqChs c d = eqChs d c
  | [], [], _ => rfl
  | [], _ :: _, h => by simp at h
  | _ :: _, [], h => by simp at h
  | r :: c, q :: d, h => by
    simp only [eqChs, List.drop_one, List.tail_cons]
    rw [eqChs_swap c d (by simpa using h)]
    show (eqChR r q && _) = (eqChR q r && _)
    rw [show eqChR r q = eqChR q r from eqCh_swap _ _ _ _ _ _ _ _ _ _ _ _ _ _]

theorem eqP_swap (a n : Int) (c : List (List Cell)) (b m : Int) (d : List (List Cell)) : eqP a n c b m d = eqP b m d a n c := by
  unfold eqP
  by_cases h : c.length = d.length
  · rw [eqChs_swap c d h, h]
    rw [Bool.eq_iff_iff]
    simp only [Bool.and_eq_true, beq_iff_eq, decide_eq_true_eq]
    constructor
    · rintro ⟨⟨⟨h1, h2⟩, _⟩, h3⟩; exact ⟨⟨⟨h1.symm, h2.symm⟩, trivial⟩, h3⟩
    · rintro ⟨⟨⟨h1, h2⟩, _⟩, h3⟩; exact ⟨⟨⟨h1.symm, h2.symm⟩, trivial⟩, h3⟩
  · rw [decide_eq_false h, decide_eq_false (Ne.symm h)]
    simp

theorem l33i (c d : List (List Cell)) (hc : okRows c = true) (hd : d.length ≤ 1000) (i : Nat) (hi : i < d.length) {r : List AV × List Block} (hout : ∃ m, goF E (callOf L31) F33 0 m P33_0 (M33_0 c d ((i : Int) + 1)) = some r) : ∀ (e k : Nat) (f : Bool), k + e = c.length →
    ∃ m, goF E (callOf L31) F33 0 m P33_1 (M33_1 c d i f k) = some (if (f || inP (nr (Abs.rowAt d i) 0) (nr (Abs.rowAt d i) 1) (nl (Abs.rowAt d i) 2) (c.drop k)) = true then r else ([.one (.bool false)], []))
  | 0, k, f, hk => by
    obtain ⟨m, hm⟩ := hout
    refine ⟨m + 1, ?_⟩
    rw [e33_1]
    have : c.drop k = [] := List.drop_eq_nil_of_le (by omega)
    rw [this]
    refine cf (decide_eq_false (by omega)) ?_
    cases f
    · rfl
    · refine cf rfl ?_
      rw [wrap64 (n := (i : Int) + 1) (by omega) (by omega)]
      exact hm
  | e + 1, k, f, hk => by
    obtain ⟨hc1, hc2⟩ := okRows_of hc
    have hk' : k < c.length := by omega
    have hs := short_at hc2 hk'
    cases f
    · obtain ⟨m, hm⟩ := l33i c d hc hd i hi hout e (k + 1) (isP (nr (Abs.rowAt d i) 0) (nr (Abs.rowAt d i) 1) (nl (Abs.rowAt d i) 2) (Abs.rowAt c k)) (by omega)
      refine ⟨m + 1, ?_⟩
      rw [e33_1, Int.toNat_natCast, Int.toNat_natCast, nat_wrap (n := c.length) hk' (by omega), eqP_swap]
      refine ct (decide_eq_true (by omega)) (cf rfl (ct (inB_nat' hk') (ct (inB_nat' hi) (ct (decide_eq_true hs) ?_))))
      refine Eq.trans hm ?_
      rw [drop_cons c k hk']
      unfold inP
      rw [List.any_cons, Bool.false_or]
    · obtain ⟨m, hm⟩ := l33i c d hc hd i hi hout e (k + 1) true (by omega)
      refine ⟨m + 1, ?_⟩
      rw [e33_1, nat_wrap (n := c.length) hk' (by omega), hm]
      refine ct (decide_eq_true (by omega)) ?_
      simp

theorem l33 (c d : List (List Cell)) (hc : okRows c = true) (hd : okRows d = true) : ∀ (e i : Nat), i + e = d.length →
    ∃ m, goF E (callOf L31) F33 0 m P33_0 (M33_0 c d i) = some ([.one (.bool (incl c (d.drop i)))], [])
  | 0, i, hi => by
    refine ⟨1, ?_⟩
    rw [e33_0]
    have : d.drop i = [] := List.drop_eq_nil_of_le (by omega)
    rw [this]
    exact cf (decide_eq_false (by omega)) rfl
  | e + 1, i, hi => by
    have hi' : i < d.length := by omega
    obtain ⟨m, hm⟩ := l33i c d hc (okRows_of hd).1 i hi' (l33 c d hc hd e (i + 1) (by omega)) c.length 0 false (by omega)
    refine ⟨m + 1, ?_⟩
    rw [e33_0]
    refine ct (decide_eq_true (by omega)) (Eq.trans hm ?_)
    rw [drop_cons d i hi', List.drop_zero, Bool.false_or]
    unfold incl
    rw [List.all_cons]
    generalize inP (nr (Abs.rowAt d i) 0) (nr (Abs.rowAt d i) 1) (nl (Abs.rowAt d i) 2) c = b
    cases b <;> rfl

theorem k33 (c d : List (List Cell)) (h : (okRows c && okRows d) = true) : ∃ m, runF E (callOf L31) m 33 [.one (.sl false 53 c), .one (.sl false 53 d)] [] = some ([.one (.bool (incl c d))], []) := by
  obtain ⟨h1, h2⟩ := ok2_of h
  obtain ⟨m, hm⟩ := l33 c d h1 h2 d.length 0 (by omega)
  exact ⟨m + 1, by rw [e33]; exact hm⟩

theorem tail_cert {f t : List (List Cell)} (h1 : vCfg f = 0) (h2 : vCfg t = 0) : vCert f t = if incl t f = true then 0 else 2 := by
  unfold vCert
  rw [if_neg (by simpa using h1), if_neg (by simpa using h2)]

theorem k10 (f t : List (List Cell)) (h : (okRows f && okRows t) = true) : ∃ m, runF E (callOf L33) m 10 [.agg [.sl false 53 f, .sl false 53 t]] [] = some ([.one (.int .i64 (vCert f t))], []) := by
  obtain ⟨h1, h2⟩ := ok2_of h
  have e0 : nl (Abs.rowAt [[Cell.slice 53 f], [Cell.slice 53 t]] 0) 0 = f := rfl
  have e1 : nl (Abs.rowAt [[Cell.slice 53 f], [Cell.slice 53 t]] 1) 0 = t := rfl
  refine ⟨4, ?_⟩
  rw [e10, e10_0]
  refine ct (by decide) (ct rfl (ct h1 ?_))
  show cond (vCfg f != 0) (some ([AV.one (.int .i64 (vCfg f))], ([] : List Block))) (goF E (callOf L33) F10 0 2 P10_0 (M10_0 [[Cell.slice 53 f], [Cell.slice 53 t]] 2 1 f t)) = _
  by_cases hf : vCfg f = 0
  · refine cf (by simpa using hf) ?_
    rw [e10_0]
    refine ct (by decide) (ct rfl (ct h2 ?_))
    show cond (vCfg t != 0) (some ([AV.one (.int .i64 (vCfg t))], ([] : List Block))) (goF E (callOf L33) F10 0 1 P10_0 (M10_0 [[Cell.slice 53 f], [Cell.slice 53 t]] 2 2 f t)) = _
    by_cases ht : vCfg t = 0
    · refine cf (by simpa using ht) ?_
      rw [e10_0, tail_cert hf ht]
      refine cf (by decide) (ct (by rw [h1, h2]; rfl) ?_)
      cases incl t f <;> rfl
    · refine ct (by simpa using ht) ?_
      unfold vCert
      rw [if_neg (by simpa using hf), if_pos ht]
  · refine ct (by simpa using hf) ?_
    unfold vCert
    rw [if_pos hf]

theorem k11 (f t : List (List Cell)) (h : (okRows f && okRows t) = true) : runF E (callOf L10) 1 11 [.agg [.sl false 53 f, .sl false 53 t]] [] = some ([.one (.int .i64 (vCert f t))], []) := by
  obtain ⟨h1, h2⟩ := ok2_of h
  rw [e11]
  refine ct h1 ?_
  by_cases hf : vCfg f = 0
  · refine cf (by simpa using hf) (ct h2 ?_)
    by_cases ht : vCfg t = 0
    · refine cf (by simpa using ht) (ct (by rw [h1, h2]; rfl) ?_)
      rw [tail_cert hf ht]
      cases incl t f <;> rfl
    · refine ct (by simpa using ht) (ct h2 ?_)
      unfold vCert
      rw [if_neg (by simpa using hf), if_pos ht]
  · refine ct (by simpa using hf) (ct h1 ?_)
    unfold vCert
    rw [if_pos hf]

theorem k14 (f t f2 t2 : List (List Cell)) (h : (okRows f && okRows t) = true) : runF E (callOf L11) 1 14 [.agg [.sl false 53 f, .sl false 53 t], .agg [.sl false 53 f2, .sl false 53 t2]] [] = some ([.one (.bool (eqCfg f f2 && eqCfg t t2))], []) := by
  obtain ⟨h1, h2⟩ := ok2_of h
  rw [e14]
  refine ct h1 ?_
  cases eqCfg f f2
  · rfl
  · exact ct rfl (ct h2 rfl)

theorem decPs_at (x : List (List Cell)) (hx : okRd x = true) : ∀ (k : Nat) (o : Int) (acc : List (List Cell)), 0 ≤ o → o ≤ x.length → 0 ≤ (decPs x k o acc).2.1 ∧ (decPs x k o acc).2.1 ≤ x.length
  | 0, o, acc, h0, h1 => ⟨h0, h1⟩
  | k + 1, o, acc, h0, h1 => by
    simp only [decPs]
    split
    · exact ⟨Int.le_refl _, by simp⟩
    · have hb := decP_bound (okRd_drop hx o.toNat)
      rw [List.length_drop] at hb
      exact decPs_at x hx k _ _ (by omega) (by omega)

theorem decC_bound {x : List (List Cell)} (hx : okRd x = true) : 0 ≤ (decC x).2.1 ∧ (decC x).2.1 ≤ x.length := by
  unfold decC
  split
  · simp
  · rename_i he
    have hb := udec_bound (okRd_of hx).1 (by simpa using he)
    split
    · simp
    · unfold finC
      split
      · simp
      · split
        · simp
        · exact decPs_at x hx _ _ _ (by omega) (by omega)

theorem k26 (x : List (List Cell)) (hx : okRd x = true) : runF E (callOf L14) 1 26 [.one (.sl false 5 x)] [] = some ([.agg [.sl true 53 (decT x).1, .sl true 53 (decT x).2.1], .one (.int .i64 (decT x).2.2.1), .one (.int .i64 (decT x).2.2.2)], []) := by
  have hb := decC_bound hx
  have hl := (okRd_of hx).2
  have hx2 := okRd_drop hx (decC x).2.1.toNat
  have hb2 := decC_bound hx2
  rw [List.length_drop] at hb2
  rw [e26, show dropN x 0 = x from by rw [dropN_eq, List.drop_zero], dropN_eq, Int.zero_add, wrap64 (n := (decC x).2.1) (by omega) (by omega)]
  refine ct (inB_of (by omega) (by omega)) (ct hx ?_)
  unfold decT
  simp only
  by_cases h1 : (decC x).2.2 = 0
  · refine cf (by simpa using h1) (ct (inB_of (by omega) (by omega)) (ct hx2 ?_))
    rw [if_neg (by simpa using h1)]
    by_cases h2 : (decC (x.drop (decC x).2.1.toNat)).2.2 = 0
    · refine cf (by simpa using h2) (ct (by rw [decC_rows hx, decC_rows hx2]; rfl) ?_)
      rw [if_neg (by simpa using h2)]
      by_cases h3 : vCert (decC x).1 (decC (x.drop (decC x).2.1.toNat)).1 = 0
      · refine cf (by simpa using h3) ?_
        rw [if_neg (by simpa using h3), wrap64 (by omega) (by omega)]
      · refine ct (by simpa using h3) ?_
        rw [if_pos h3]
    · refine ct (by simpa using h2) ?_
      rw [if_pos h2]
  · refine ct (by simpa using h1) ?_
    rw [if_pos h1]

theorem k27 (x : List (List Cell)) (hx : okRd x = true) : runF E (callOf L26) 1 27 [.one (.sl false 5 x)] [] = some ([.agg [.sl false 53 (decT x).1, .sl false 53 (decT x).2.1], .one (.int .i64 (decT x).2.2.1), .one (.int .i64 (decT x).2.2.2)], []) := by
  have hb := decC_bound hx
  have hl := (okRd_of hx).2
  have hx2 := okRd_drop hx (decC x).2.1.toNat
  have hb2 := decC_bound hx2
  rw [List.length_drop] at hb2
  rw [e27, dropN_eq]
  refine ct hx ?_
  unfold decT
  simp only
  by_cases h1 : (decC x).2.2 = 0
  · refine cf (by simpa using h1) (ct (inB_of (by omega) (by omega)) (ct hx2 ?_))
    rw [if_neg (by simpa using h1)]
    by_cases h2 : (decC (x.drop (decC x).2.1.toNat)).2.2 = 0
    · refine cf (by simpa using h2) (ct (by rw [decC_rows hx, decC_rows hx2]; rfl) ?_)
      rw [if_neg (by simpa using h2)]
      by_cases h3 : vCert (decC x).1 (decC (x.drop (decC x).2.1.toNat)).1 = 0
      · refine cf (by simpa using h3) ?_
        rw [if_neg (by simpa using h3), wrap64 (by omega) (by omega)]
      · refine ct (by simpa using h3) ?_
        rw [if_pos h3]
    · refine ct (by simpa using h2) ?_
      rw [if_pos h2]
  · refine ct (by simpa using h1) ?_
    rw [if_pos h1]

theorem okT_of {x f t : List (List Cell)} (h : okTApp x f t = true) : okCApp x f = true ∧ okCApp (x ++ encC f) t = true := by
  unfold okTApp at h
  simpa using h

theorem k28 (x f t : List (List Cell)) (h : okTApp x f t = true) : runF E (callOf L27) 1 28 [.one (.sl false 5 x), .agg [.sl false 53 f, .sl false 53 t]] [] = some ([.one (.sl true 5 (x ++ encT f t))], []) := by
  rw [e28, encT, List.append_assoc]
  exact ct (okT_of h).1 (ct (okT_of h).2 rfl)

theorem k28c (f t : List (List Cell)) (h : okTApp [] f t = true) : runF E (callOf L27) 1 28 [.one .nils, .agg [.sl false 53 f, .sl false 53 t]] [] = some ([.one (.sl true 5 (encT f t))], []) := by
  obtain ⟨h1, h2⟩ := okT_of h
  rw [e28_c1, h1, h2]
  simp only [cond_true, List.nil_append, encT]

theorem k29 (x f t : List (List Cell)) (h : okTApp x f t = true) : runF E (callOf L28) 1 29 [.one (.sl false 5 x), .agg [.sl false 53 f, .sl false 53 t]] [] = some ([.one (.sl false 5 (x ++ encT f t))], []) := by
  rw [e29, encT, List.append_assoc]
  exact ct (okT_of h).1 (ct (okT_of h).2 rfl)

theorem k29c (f t : List (List Cell)) (h : okTApp [] f t = true) : runF E (callOf L28) 1 29 [.one .nils, .agg [.sl false 53 f, .sl false 53 t]] [] = some ([.one (.sl false 5 (encT f t))], []) := by
  obtain ⟨h1, h2⟩ := okT_of h
  rw [e29_c1, h1, h2]
  simp only [cond_true, List.nil_append, encT]

/- THE LAWS -/

theorem law3 (f t : List (List Cell)) (h : (shortRows f && shortRows t) = true) : runF E (callOf L9) 1 3 [.agg [.sl false 53 f, .sl false 53 t]] [] = some ([.one (.bool true)], []) := by
  simp only [Bool.and_eq_true] at h
  rw [e3]
  refine cs (fun _ => rfl) (fun g => cs (fun _ => rfl) (fun g2 => ?_))
  have g' := of_decide_eq_false g
  have g2' := of_decide_eq_false g2
  have ho : (okRows f && okRows t) = true := by rw [okRows_mk (by omega) h.1, okRows_mk (by omega) h.2]; rfl
  exact ct ho (ct ho (ct (by simp) rfl))

theorem decT_rows {x : List (List Cell)} (hx : okRd x = true) : (okRows (decT x).1 && okRows (decT x).2.1) = true := by
  unfold decT
  simp only
  split
  · rfl
  · split
    · rfl
    · split
      · rfl
      · simp only
        rw [decC_rows hx, decC_rows (okRd_drop hx _)]
        rfl

theorem eqChs_map : ∀ (c d : List (List Cell)), eqChs (c.map reCh) (d.map reCh) = eqChs c d
  | [], d => rfl
  | r :: c, d => by
    rw [List.map_cons, eqChs, eqChs, ← List.map_drop, eqChs_map c (d.drop 1)]
    have : eqChR (reCh r) (Abs.rowAt (d.map reCh) 0) = eqChR r (Abs.rowAt d 0) := by
      cases d <;> rfl
    rw [this]

theorem isP_re (a n : Int) (l : List (List Cell)) (q : List Cell) : isP a n (l.map reCh) (rePr q) = isP a n l q := by
  show eqP a n (l.map reCh) (nr q 0) (nr q 1) ((nl q 2).map reCh) = eqP a n l (nr q 0) (nr q 1) (nl q 2)
  unfold eqP
  rw [List.length_map, List.length_map, eqChs_map]

theorem incl_re (c d : List (List Cell)) : incl (c.map rePr) (d.map rePr) = incl c d := by
  unfold incl
  rw [List.all_map]
  refine congrArg (fun f => d.all f) (funext fun q => ?_)
  show inP (nr q 0) (nr q 1) ((nl q 2).map reCh) (c.map rePr) = _
  unfold inP
  rw [List.any_map]
  exact congrArg (fun f => c.any f) (funext fun r => isP_re _ _ _ r)

theorem vCert_re (f t : List (List Cell)) : vCert (f.map rePr) (t.map rePr) = vCert f t := by
  unfold vCert
  rw [vCfg_re, vCfg_re, incl_re]

theorem valid_parts {f t : List (List Cell)} (h : vCert f t = 0) : vCfg f = 0 ∧ vCfg t = 0 := by
  unfold vCert at h
  by_cases h1 : vCfg f = 0
  · by_cases h2 : vCfg t = 0
    · exact ⟨h1, h2⟩
    · rw [if_neg (by simpa using h1), if_pos h2] at h
      exact absurd h h2
  · rw [if_pos h1] at h
    exact absurd h h1

theorem encC_len {c : List (List Cell)} (h : vCfg c = 0) : (encC c).length ≤ 70310 := by
  have h9 := vCfg_nine h
  have hl := encAll_lenF c (valid_few h)
  have hu := uenc_len (c.length : Int)
  unfold encC
  rw [List.length_append]
  omega

theorem encC_okB (c : List (List Cell)) : okB (encC c) = true := okB_app (uencF_okB 10 _ (by omega)) (encAll_okB c)

/-- a valid certificate is read back, whatever follows -/
theorem decT_enc {f t : List (List Cell)} (h : vCert f t = 0) (rest : List (List Cell)) : decT (encT f t ++ rest) = (f.map rePr, t.map rePr, ((encT f t).length : Int), 0) := by
  obtain ⟨h1, h2⟩ := valid_parts h
  unfold decT encT
  rw [List.append_assoc, decC_enc h1]
  simp only
  rw [Int.toNat_natCast, List.drop_left, decC_enc h2]
  simp only
  rw [if_neg (by simp), if_neg (by simp), vCert_re, h, if_neg (by simp), List.length_append]
  simp

theorem law8 (f t x : List (List Cell)) (hg : (okB x && (shortRows f && shortRows t)) = true) : runF E (callOf L3) 1 8 [.agg [.sl false 53 f, .sl false 53 t], .one (.sl false 5 x)] [] = some ([.one (.bool true)], []) := by
  simp only [Bool.and_eq_true] at hg
  obtain ⟨hx, hs1, hs2⟩ := hg
  rw [e8]
  refine cs (fun _ => rfl) (fun g1 => cs (fun _ => rfl) (fun g2 => cs (fun _ => rfl) (fun g3 => ?_)))
  have g1' := of_decide_eq_false g1
  have g2' := of_decide_eq_false g2
  have g3' := of_decide_eq_false g3
  have hrd := okRd_mk hx (by omega)
  have ho : (okRows f && okRows t) = true := by rw [okRows_mk (by omega) hs1, okRows_mk (by omega) hs2]; rfl
  refine ct hrd (ct hrd (ct (decT_rows hrd) (cf (by rw [eqCfg_refl, eqCfg_refl]; rfl) (cf (by simp) (cf (by simp) (ct ho ?_))))))
  by_cases hv : vCert f t = 0
  · obtain ⟨h1, h2⟩ := valid_parts hv
    have l1 := encC_len h1
    have l2 := encC_len h2
    have n1 := vCfg_nine h1
    have n2 := vCfg_nine h2
    have hlen : (encT f t).length = (encC f).length + (encC t).length := by unfold encT; rw [List.length_append]
    have hap : okTApp [] f t = true := by
      unfold okTApp okCApp
      simp only [Bool.and_eq_true, decide_eq_true_eq, List.nil_append]
      exact ⟨⟨by simp, by omega, valid_few h1⟩, by omega, by omega, valid_few h2⟩
    have hrd2 : okRd (encT f t ++ x) = true := okRd_mk (okB_app (okB_app (encC_okB f) (encC_okB t)) hx) (by simp; omega)
    rw [List.nil_append, decT_enc hv]
    refine cf (by simpa using hv) (ct hap (ct (fits_of (by simp; omega)) (ct (fits_of (by omega)) (ct hrd2 (ct hap (ct (by simp) (ct (by simp) (ct (by simp) (ct ho (ct ?_ rfl))))))))))
    simp [eqCfg, eqCfgF_re]
  · exact ct (by simpa using hv) rfl

end Go.Proofs.Ytdgijohgncchiaa
