/-
  The contracts of the functions that read and write proposals as bytes.
-/
import Derived.Test.YtaafnpmijncpeaaPure3
namespace Go.Proofs.Ytaafnpmijncpeaa
open Go.Abs

/- WHERE A READING STANDS BEHIND IT -/

theorem udecF_bound : ∀ (k : Nat) (i acc : Int) (l : List (List Cell)), 0 ≤ acc → 0 ≤ i → (∀ r ∈ l, 0 ≤ nr r 0) → (udecF k i acc l).2.2 = 0 → i < (udecF k i acc l).2.1 ∧ (udecF k i acc l).2.1 ≤ i + l.length ∧ 0 ≤ (udecF k i acc l).1
  | 0, _, _, _, _, _, _, h => by simp [udecF] at h
  | k + 1, _, _, [], _, _, _, h => by simp [udecF] at h
  | k + 1, i, acc, r :: rs, ha, hi, hl, h => by
    have h0 := hl r (List.mem_cons_self)
    have hp : (0 : Int) < 128 ^ i.toNat := Int.pow_pos (by decide)
    unfold udecF at h ⊢
    split
    · rw [if_pos (by assumption)] at h; simp at h
    · rw [if_neg (by assumption)] at h
      split
      · rw [if_pos (by assumption)] at h
        split
        · rw [if_pos (by assumption)] at h; simp at h
        · have := Int.mul_nonneg h0 (Int.le_of_lt hp)
          simp only [List.length_cons]
          omega
      · rw [if_neg (by assumption)] at h
        have := Int.mul_nonneg (show 0 ≤ nr r 0 - 128 by omega) (Int.le_of_lt hp)
        have := udecF_bound k (i + 1) (acc + (nr r 0 - 128) * 128 ^ i.toNat) rs (by omega) (by omega) (fun r hr => hl r (List.mem_cons_of_mem _ hr)) h
        simp only [List.length_cons]
        omega

theorem okB_nonneg {x : List (List Cell)} (h : okB x = true) : ∀ r ∈ x, 0 ≤ nr r 0 := fun r hr => (isByte_nr (List.all_eq_true.1 h r hr)).1

theorem udec_bound {x : List (List Cell)} (hx : okB x = true) (h : (udec x).2.2 = 0) : 0 < (udec x).2.1 ∧ (udec x).2.1 ≤ x.length ∧ 0 ≤ (udec x).1 := by
  have := udecF_bound 10 0 0 x (by omega) (by omega) (okB_nonneg hx) h
  unfold udec
  omega

theorem rnum2_bound {x : List (List Cell)} (hx : okB x = true) (h : (rnum2 x).2.2 = 0) : 0 < (rnum2 x).2.1 ∧ (rnum2 x).2.1 ≤ x.length ∧ 0 ≤ (rnum2 x).1 ∧ (rnum2 x).1 ≤ 2147483647 := by
  unfold rnum2 at h ⊢
  split
  · rw [if_pos (by assumption)] at h
    simp at h
    omega
  · rename_i h1
    rw [if_neg h1] at h
    split
    · rw [if_pos (by assumption)] at h; simp at h
    · have := udec_bound hx (by omega)
      omega

theorem k42 (x : List (List Cell)) (hx : okRd x = true) : runF E (callOf L20) 1 42 [.one (.sl false 5 x)] [] = some ([.one (.int .i64 (rnum2 x).1), .one (.int .i64 (rnum2 x).2.1), .one (.int .i64 (rnum2 x).2.2)], []) := by
  rw [e42]
  refine ct hx ?_
  unfold rnum2
  by_cases h : (udec x).2.2 = 0
  · refine cf (by simpa using h) ?_
    rw [if_neg (by simpa using h)]
    by_cases h1 : 2147483647 < (udec x).1
    · rw [if_pos h1]
      exact ct (decide_eq_true h1) rfl
    · rw [if_neg h1]
      refine cf (decide_eq_false h1) ?_
      have := udec_bound (okRd_of hx).1 h
      rw [wrap64 (by omega) (by omega), h]
  · rw [if_pos h]
    exact ct (by simpa using h) rfl

theorem okAt_of {x : List (List Cell)} {o : Int} (h : okAt x o = true) : okRd x = true ∧ 0 ≤ o ∧ o ≤ x.length := by
  unfold okAt at h
  unfold okRd
  simp only [Bool.and_eq_true, decide_eq_true_eq] at h ⊢
  exact ⟨⟨h.1, h.2.1⟩, h.2.2⟩

theorem okAt_mk {x : List (List Cell)} {o : Int} (h : okRd x = true) (h0 : 0 ≤ o) (h1 : o ≤ x.length) : okAt x o = true := by
  unfold okAt
  unfold okRd at h
  simp only [Bool.and_eq_true, decide_eq_true_eq] at h ⊢
  exact ⟨h.1, h.2, h0, h1⟩

/-- the reader's state behind a number -/
theorem rnum_at {b : List (List Cell)} {o e : Int} (h : okAt b o = true) : okAt b (rnum b o e).2.1 = true := by
  obtain ⟨h1, h2, h3⟩ := okAt_of h
  unfold rnum
  split
  · exact h
  · split
    · exact h
    · rename_i h4
      have := rnum2_bound (okB_drop (okRd_of h1).1 o.toNat) (by simpa using h4)
      rw [List.length_drop] at this
      exact okAt_mk h1 (by simp only; omega) (by simp only; omega)

theorem k33 (b : List (List Cell)) (o e : Int) (h : okAt b o = true) : runF E (callOf L45) 1 33 [.one (.ptr 0 0)] [.var [.sl false 5 b, .int .i64 o, .int .i64 e]] =
    some ([.one (.int .i64 (rnum b o e).1)], [.var [.sl false 5 b, .int .i64 (rnum b o e).2.1, .int .i64 (rnum b o e).2.2]]) := by
  obtain ⟨h1, h2, h3⟩ := okAt_of h
  have h4 := okRd_drop h1 o.toNat
  rw [e33]
  unfold rnum
  by_cases he : e = 0
  · subst he
    rw [if_neg (by simp)]
    refine cf (by simp) (ct (inB_of h2 (by omega)) ?_)
    rw [dropN_eq]
    refine ct h4 ?_
    have hl := (okRd_of h1).2
    by_cases hd : (udec (b.drop o.toNat)).2.2 = 0
    · refine cf (by simpa using hd) ?_
      have hb := udec_bound (okRd_of h4).1 hd
      rw [List.length_drop] at hb
      by_cases hbig : 2147483647 < (udec (b.drop o.toNat)).1
      · refine ct (decide_eq_true hbig) ?_
        have e : rnum2 (b.drop o.toNat) = (0, 0, 9) := by
          unfold rnum2
          rw [if_neg (by simpa using hd), if_pos hbig]
        rw [e]
        rfl
      · refine cf (decide_eq_false hbig) ?_
        have e : rnum2 (b.drop o.toNat) = udec (b.drop o.toNat) := by
          unfold rnum2
          rw [if_neg (by simpa using hd), if_neg hbig]
        rw [e, if_neg (by simpa using hd), wrap64 (by omega) (by omega), wrap64 (by omega) (by omega)]
    · refine ct (by simpa using hd) ?_
      have e : rnum2 (b.drop o.toNat) = (0, 0, (udec (b.drop o.toNat)).2.2) := by
        unfold rnum2
        rw [if_pos hd]
      rw [e, if_pos (by simpa using hd)]
  · rw [if_pos he]
    exact ct (by simpa using he) rfl

theorem l35 (x : List (List Cell)) (hx : okRd x = true) (c : Int) (hc : c ≤ 1000) : ∀ (d i : Nat) (o : Int) (acc : List (List Cell)), i + d = c.toNat → 0 ≤ o → o ≤ x.length → acc.length = i →
    ∃ m, goF E (callOf L42) F35 0 m P35_0 (M35_0 x c acc o i) = some ([.one (.sl true 3 (rreadF x d o acc).1), .one (.int .i64 (rreadF x d o acc).2.1), .one (.int .i64 (rreadF x d o acc).2.2)], []) := by
  intro d
  induction d with
  | zero =>
    intro i o acc hi h0 h1 ha
    refine ⟨1, ?_⟩
    rw [e35_0]
    exact cf (decide_eq_false (by omega)) rfl
  | succ d ih =>
    intro i o acc hi h0 h1 ha
    have h4 := okRd_drop hx o.toNat
    have hl := (okRd_of hx).2
    by_cases he : (rnum2 (x.drop o.toNat)).2.2 = 0
    · have hb := rnum2_bound (okRd_of h4).1 he
      rw [List.length_drop] at hb
      obtain ⟨m, hm⟩ := ih (i + 1) (o + (rnum2 (x.drop o.toNat)).2.1) (acc ++ [[.int .i64 (rnum2 (x.drop o.toNat)).1]]) (by omega) (by omega) (by omega) (by simp; omega)
      refine ⟨m + 1, ?_⟩
      rw [e35_0, dropN_eq]
      refine ct (decide_eq_true (by omega)) (ct (inB_of h0 (by omega)) (ct h4 (cf (by simpa using he) (ct (fits_of (by simp; omega)) ?_))))
      rw [wrap64 (by omega) (by omega), wrap64 (by omega) (by omega), show (i : Int) + 1 = ((i + 1 : Nat) : Int) by omega, hm, rreadF, if_neg (by simpa using he)]
    · refine ⟨1, ?_⟩
      rw [e35_0, dropN_eq]
      refine ct (decide_eq_true (by omega)) (ct (inB_of h0 (by omega)) (ct h4 (ct (by simpa using he) ?_)))
      rw [rreadF, if_pos he]

theorem k35 (x : List (List Cell)) (c : Int) (h : (okRd x && decide (c ≤ 1000)) = true) : ∃ m, runF E (callOf L42) m 35 [.one (.sl false 5 x), .one (.int .i64 c)] [] = some ([.one (.sl true 3 (rread x c).1), .one (.int .i64 (rread x c).2.1), .one (.int .i64 (rread x c).2.2)], []) := by
  simp only [Bool.and_eq_true, decide_eq_true_eq] at h
  obtain ⟨m, hm⟩ := l35 x h.1 c h.2 c.toNat 0 0 [] (by omega) (by omega) (by omega) rfl
  exact ⟨m + 1, by rw [e35]; exact hm⟩

theorem encL_app : ∀ (x y : List (List Cell)), encL (x ++ y) = encL x ++ encL y
  | [], y => rfl
  | r :: x, y => by rw [List.cons_append, encL, encL, encL_app x y, List.append_assoc]

theorem encL_len : ∀ (x : List (List Cell)), (encL x).length ≤ 10 * x.length
  | [] => by simp [encL]
  | r :: x => by
    have := encL_len x
    have := uenc_len (IntKind.wrap .u64 (nr r 0))
    simp only [encL, List.length_append, List.length_cons]
    omega

theorem encL_okB : ∀ (x : List (List Cell)), okB (encL x) = true
  | [] => rfl
  | r :: x => by
    rw [encL]
    exact okB_app (uencF_okB 10 _ (wrapu_range _).1) (encL_okB x)

theorem okNums_of {x l : List (List Cell)} (h : okNums x l = true) : x.length ≤ 2000000 ∧ l.length ≤ 10000 := by
  unfold okNums at h
  simpa using h

theorem okNums_mk {x l : List (List Cell)} (h1 : x.length ≤ 2000000) (h2 : l.length ≤ 10000) : okNums x l = true := by
  unfold okNums
  simp [h1, h2]

theorem l34 (l : List (List Cell)) (hl : l.length ≤ 10000) : ∀ (d i : Nat) (x : List (List Cell)), i + d = l.length → x.length ≤ 2000000 + 10 * i →
    ∃ m, goF E (callOf L35) F34 0 m P34_0 (M34_0 x l i) = some ([.one (.sl false 5 (x ++ encL (l.drop i)))], [])
  | 0, i, x, hi, hx => by
    refine ⟨1, ?_⟩
    rw [e34_0]
    have : l.drop i = [] := List.drop_eq_nil_of_le (by omega)
    refine cf (decide_eq_false (by omega)) ?_
    rw [this, encL, List.append_nil]
  | d + 1, i, x, hi, hx => by
    have hu := uenc_len (IntKind.wrap .u64 (nr (Abs.rowAt l i) 0))
    obtain ⟨m, hm⟩ := l34 l hl d (i + 1) (x ++ uenc (IntKind.wrap .u64 (nr (Abs.rowAt l i) 0))) (by omega) (by simp; omega)
    refine ⟨m + 1, ?_⟩
    rw [e34_0]
    have hr := wrapu_range (nr (Abs.rowAt l i) 0)
    rw [Int.toNat_natCast]
    refine ct (decide_eq_true (by omega)) (ct (inB_nat' (by omega)) (ct (okEnc_mk (by omega) hr.1 hr.2) ?_))
    rw [nat_wrap (n := l.length) (by omega) (by omega), hm, drop_cons l i (by omega), encL, List.append_assoc]

theorem k34 (x l : List (List Cell)) (h : okNums x l = true) : ∃ m, runF E (callOf L35) m 34 [.one (.sl false 5 x), .one (.sl false 3 l)] [] = some ([.one (.sl false 5 (x ++ encL l))], []) := by
  obtain ⟨h1, h2⟩ := okNums_of h
  obtain ⟨m, hm⟩ := l34 l h2 l.length 0 x (by omega) (by omega)
  exact ⟨m + 1, by rw [e34]; exact hm⟩

theorem okApp_of {x c : List (List Cell)} (h : okApp x c = true) : x.length ≤ 1000000 ∧ c.length ≤ 1000 := by
  unfold okApp at h
  simpa using h

theorem l21 (a n : Int) (c : List (List Cell)) (hc : c.length ≤ 1000) : ∀ (d i : Nat) (x : List (List Cell)), i + d = c.length → x.length ≤ 1000030 + 70 * i →
    ∃ m, goF E (callOf L34) F21 0 m P21_0 (M21_0 x i a n c) = some ([.one (.sl false 5 (x ++ encL (chsNums (c.drop i))))], [])
  | 0, i, x, hi, hx => by
    refine ⟨1, ?_⟩
    rw [e21_0]
    have : c.drop i = [] := List.drop_eq_nil_of_le (by omega)
    refine cf (decide_eq_false (by omega)) ?_
    rw [this, chsNums, encL, List.append_nil]
  | d + 1, i, x, hi, hx => by
    have hu := encL_len (chNums (Abs.rowAt c i))
    have h7 : (chNums (Abs.rowAt c i)).length = 7 := rfl
    obtain ⟨m, hm⟩ := l21 a n c hc d (i + 1) (x ++ encL (chNums (Abs.rowAt c i))) (by omega) (by simp; omega)
    refine ⟨m + 1, ?_⟩
    rw [e21_0, Int.toNat_natCast]
    refine ct (decide_eq_true (by omega)) (ct (inB_nat' (by omega)) (ct (okNums_mk (by omega) (by simp)) ?_))
    rw [nat_wrap (n := c.length) (by omega) (by omega)]
    refine Eq.trans hm ?_
    rw [drop_cons c i (by omega), chsNums, encL_app, List.append_assoc]

theorem k21 (x : List (List Cell)) (a n : Int) (c : List (List Cell)) (h : okApp x c = true) : ∃ m, runF E (callOf L34) m 21 [.one (.sl false 5 x), .agg [.int .i64 a, .int .i64 n, .sl false 25 c]] [] = some ([.one (.sl false 5 (x ++ encP a n c))], []) := by
  obtain ⟨h1, h2⟩ := okApp_of h
  have hu := encL_len (headNums a n c.length)
  have h7 : (headNums a n c.length).length = 3 := rfl
  obtain ⟨m, hm⟩ := l21 a n c h2 c.length 0 (x ++ encL (headNums a n c.length)) (by omega) (by simp; omega)
  refine ⟨m + 1, ?_⟩
  rw [e21]
  refine ct (okNums_mk (by omega) (by simp)) (Eq.trans hm ?_)
  rw [List.drop_zero, List.append_assoc, ← encL_app]
  rfl

theorem l21c (a n : Int) (c : List (List Cell)) (hc : c.length ≤ 1000) : ∀ (d i : Nat) (x : List (List Cell)), i + d = c.length → x.length ≤ 1000030 + 70 * i →
    ∃ m, goF E (callOf L34) F21 0 m P21_0_c1 (M21_0_c1 x i a n c) = some ([.one (.sl false 5 (x ++ encL (chsNums (c.drop i))))], [])
  | 0, i, x, hi, hx => by
    refine ⟨1, ?_⟩
    rw [e21_0_c1]
    have : c.drop i = [] := List.drop_eq_nil_of_le (by omega)
    refine cf (decide_eq_false (by omega)) ?_
    rw [this, chsNums, encL, List.append_nil]
  | d + 1, i, x, hi, hx => by
    have hu := encL_len (chNums (Abs.rowAt c i))
    have h7 : (chNums (Abs.rowAt c i)).length = 7 := rfl
    obtain ⟨m, hm⟩ := l21c a n c hc d (i + 1) (x ++ encL (chNums (Abs.rowAt c i))) (by omega) (by simp; omega)
    refine ⟨m + 1, ?_⟩
    rw [e21_0_c1, Int.toNat_natCast]
    refine ct (decide_eq_true (by omega)) (ct (inB_nat' (by omega)) (ct (okNums_mk (by omega) (by simp)) ?_))
    rw [nat_wrap (n := c.length) (by omega) (by omega)]
    refine Eq.trans hm ?_
    rw [drop_cons c i (by omega), chsNums, encL_app, List.append_assoc]

theorem k21c (a n : Int) (c : List (List Cell)) (h : okApp [] c = true) : ∃ m, runF E (callOf L34) m 21 [.one .nils, .agg [.int .i64 a, .int .i64 n, .sl false 25 c]] [] = some ([.one (.sl false 5 (encP a n c))], []) := by
  obtain ⟨h1, h2⟩ := okApp_of h
  have hu := encL_len (headNums a n c.length)
  have h7 : (headNums a n c.length).length = 3 := rfl
  obtain ⟨m, hm⟩ := l21c a n c h2 c.length 0 ([] ++ encL (headNums a n c.length)) (by omega) (by simp; omega)
  refine ⟨m + 1, ?_⟩
  rw [e21_c1]
  refine ct (okNums_mk (by simp) (by simp)) (Eq.trans hm ?_)
  rw [List.drop_zero, List.nil_append, ← encL_app]
  rfl

theorem chsNums_len : ∀ (c : List (List Cell)), (chsNums c).length = 7 * c.length
  | [] => rfl
  | r :: c => by
    have h7 : (chNums r).length = 7 := rfl
    rw [chsNums, List.length_append, chsNums_len c, List.length_cons]
    omega

theorem l19b (x l : List (List Cell)) (hx : x.length ≤ 1000000) (hl : l.length ≤ 10000) : ∀ (d i : Nat) (y : List (List Cell)), i + d = l.length → y.length ≤ 10 * i →
    ∃ m, goF E (callOf L33) F19 0 m P19_1 (M19_1 x y l l.length i) = some ([.one (.sl true 5 (x ++ (y ++ encL (l.drop i))))], [])
  | 0, i, y, hi, hy => by
    refine ⟨1, ?_⟩
    rw [e19_1]
    have : l.drop i = [] := List.drop_eq_nil_of_le (by omega)
    simp only [takeN_eq, Int.toNat_natCast, List.take_length, this, encL, List.append_nil]
    exact cf (decide_eq_false (by omega)) (ct (inB_nat' (by omega)) (ct (by simp) (ct (fits_of (by omega)) rfl)))
  | d + 1, i, y, hi, hy => by
    have hu := uenc_len (IntKind.wrap .u64 (nr (Abs.rowAt l i) 0))
    obtain ⟨m, hm⟩ := l19b x l hx hl d (i + 1) (y ++ uenc (IntKind.wrap .u64 (nr (Abs.rowAt l i) 0))) (by omega) (by simp; omega)
    refine ⟨m + 1, ?_⟩
    have hr := wrapu_range (nr (Abs.rowAt l i) 0)
    rw [e19_1, Int.toNat_natCast (n := i)]
    refine ct (decide_eq_true (by omega)) (ct (inB_nat' (by omega)) (ct (okEnc_mk (by omega) hr.1 hr.2) ?_))
    rw [nat_wrap (n := l.length) (by omega) (by omega), hm, drop_cons l i (by omega), encL]
    simp only [List.append_assoc]

theorem l19a (x : List (List Cell)) (hx : x.length ≤ 1000000) (c : List (List Cell)) (hc : c.length ≤ 1000) : ∀ (d i : Nat) (l : List (List Cell)), i + d = c.length → l.length = 3 + 7 * i →
    ∃ m, goF E (callOf L33) F19 0 m P19_0 (M19_0 x l c c.length i) = some ([.one (.sl true 5 (x ++ encL (l ++ chsNums (c.drop i))))], [])
  | 0, i, l, hi, hl => by
    obtain ⟨m, hm⟩ := l19b x l hx (by omega) l.length 0 [] (by omega) (by simp)
    refine ⟨m + 1, ?_⟩
    rw [e19_0]
    have : c.drop i = [] := List.drop_eq_nil_of_le (by omega)
    rw [this, chsNums, List.append_nil]
    exact cf (decide_eq_false (by omega)) hm
  | d + 1, i, l, hi, hl => by
    have h7 : (chNums (Abs.rowAt c i)).length = 7 := rfl
    obtain ⟨m, hm⟩ := l19a x hx c hc d (i + 1) (l ++ chNums (Abs.rowAt c i)) (by omega) (by simp; omega)
    refine ⟨m + 1, ?_⟩
    rw [e19_0, Int.toNat_natCast]
    refine ct (decide_eq_true (by omega)) (ct (inB_nat' (by omega)) (ct (fits_of (by simp; omega)) ?_))
    rw [nat_wrap (n := c.length) (by omega) (by omega)]
    refine Eq.trans hm ?_
    rw [drop_cons c i (by omega), chsNums, List.append_assoc]

theorem k19 (x : List (List Cell)) (a n : Int) (c : List (List Cell)) (h : okApp x c = true) : ∃ m, runF E (callOf L33) m 19 [.one (.sl false 5 x), .agg [.int .i64 a, .int .i64 n, .sl false 25 c]] [] = some ([.one (.sl true 5 (x ++ encP a n c))], []) := by
  obtain ⟨h1, h2⟩ := okApp_of h
  obtain ⟨m, hm⟩ := l19a x h1 c h2 c.length 0 (headNums a n c.length) (by omega) rfl
  exact ⟨m + 1, by rw [e19]; exact hm⟩

theorem l19bc (l : List (List Cell)) (hl : l.length ≤ 10000) : ∀ (d i : Nat) (y : List (List Cell)), i + d = l.length → y.length ≤ 10 * i →
    ∃ m, goF E (callOf L33) F19 0 m P19_1_c1 (M19_1_c1 [] y l l.length i) = some ([.one (.sl true 5 (y ++ encL (l.drop i)))], [])
  | 0, i, y, hi, hy => by
    refine ⟨1, ?_⟩
    rw [e19_1_c1]
    have : l.drop i = [] := List.drop_eq_nil_of_le (by omega)
    simp only [takeN_eq, Int.toNat_natCast, List.take_length, this, encL, List.append_nil]
    exact cf (decide_eq_false (by omega)) (ct (inB_nat' (by simp)) (ct (by simp) (ct (fits_of (by simp; omega)) rfl)))
  | d + 1, i, y, hi, hy => by
    have hu := uenc_len (IntKind.wrap .u64 (nr (Abs.rowAt l i) 0))
    obtain ⟨m, hm⟩ := l19bc l hl d (i + 1) (y ++ uenc (IntKind.wrap .u64 (nr (Abs.rowAt l i) 0))) (by omega) (by simp; omega)
    refine ⟨m + 1, ?_⟩
    have hr := wrapu_range (nr (Abs.rowAt l i) 0)
    rw [e19_1_c1, Int.toNat_natCast (n := i)]
    refine ct (decide_eq_true (by omega)) (ct (inB_nat' (by omega)) (ct (okEnc_mk (by omega) hr.1 hr.2) ?_))
    rw [nat_wrap (n := l.length) (by omega) (by omega), hm, drop_cons l i (by omega), encL]
    simp only [List.append_assoc]

theorem l19ac (c : List (List Cell)) (hc : c.length ≤ 1000) : ∀ (d i : Nat) (l : List (List Cell)), i + d = c.length → l.length = 3 + 7 * i →
    ∃ m, goF E (callOf L33) F19 0 m P19_0_c1 (M19_0_c1 [] l c c.length i) = some ([.one (.sl true 5 (encL (l ++ chsNums (c.drop i))))], [])
  | 0, i, l, hi, hl => by
    obtain ⟨m, hm⟩ := l19bc l (by omega) l.length 0 [] (by omega) (by simp)
    refine ⟨m + 1, ?_⟩
    rw [e19_0_c1]
    have : c.drop i = [] := List.drop_eq_nil_of_le (by omega)
    rw [this, chsNums, List.append_nil]
    exact cf (decide_eq_false (by omega)) hm
  | d + 1, i, l, hi, hl => by
    have h7 : (chNums (Abs.rowAt c i)).length = 7 := rfl
    obtain ⟨m, hm⟩ := l19ac c hc d (i + 1) (l ++ chNums (Abs.rowAt c i)) (by omega) (by simp; omega)
    refine ⟨m + 1, ?_⟩
    rw [e19_0_c1, Int.toNat_natCast]
    refine ct (decide_eq_true (by omega)) (ct (inB_nat' (by omega)) (ct (fits_of (by simp; omega)) ?_))
    rw [nat_wrap (n := c.length) (by omega) (by omega)]
    refine Eq.trans hm ?_
    rw [drop_cons c i (by omega), chsNums, List.append_assoc]

theorem k19c (a n : Int) (c : List (List Cell)) (h : okApp [] c = true) : ∃ m, runF E (callOf L33) m 19 [.one .nils, .agg [.int .i64 a, .int .i64 n, .sl false 25 c]] [] = some ([.one (.sl true 5 (encP a n c))], []) := by
  obtain ⟨h1, h2⟩ := okApp_of h
  obtain ⟨m, hm⟩ := l19ac c h2 c.length 0 (headNums a n c.length) (by omega) rfl
  exact ⟨m + 1, by rw [e19_c1]; exact hm⟩

end Go.Proofs.Ytaafnpmijncpeaa
