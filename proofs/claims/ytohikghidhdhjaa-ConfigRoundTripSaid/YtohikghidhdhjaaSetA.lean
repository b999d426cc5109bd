/-
  The contracts of the program's functions over sets of proposals: search, containment, union, intersection, the vector.
-/
import Derived.Test.YtohikghidhdhjaaCfg
import Derived.Test.YtohikghidhdhjaaEq2
namespace Go.Proofs.Ytohikghidhdhjaa
open Go.Abs

theorem cmp_eq (r q : List Cell) : (cmpP (nr r 0) (nr r 1) (nr q 0) (nr q 1) == 0) = kEq r q := by
  rw [Bool.eq_iff_iff, beq_iff_eq, kEq_iff]
  have := cmpP_cases (nr r 0) (nr r 1) (nr q 0) (nr q 1)
  omega

theorem cmp_lt (r q : List Cell) : decide (cmpP (nr r 0) (nr r 1) (nr q 0) (nr q 1) < 0) = kLt r q := by
  rw [Bool.eq_iff_iff, decide_eq_true_eq, kLt_iff]
  have := cmpP_cases (nr r 0) (nr r 1) (nr q 0) (nr q 1)
  omega

theorem cmp_gt (r q : List Cell) : decide (cmpP (nr r 0) (nr r 1) (nr q 0) (nr q 1) > 0) = kLt q r := by
  rw [Bool.eq_iff_iff, decide_eq_true_eq, kLt_iff]
  have := cmpP_cases (nr r 0) (nr r 1) (nr q 0) (nr q 1)
  omega

theorem blt_mk {a b : Nat} (h : a < b) : Nat.blt a b = true := by
  rw [Nat.blt_eq]
  exact h

theorem len_snoc (v : List (List Cell)) (x : List Cell) : (v ++ [x]).length = v.length + [x].length := by simp

theorem isNilL_pos {l : List (List Cell)} (h : 0 < l.length) : isNilL l = false := by
  cases l with
  | nil => simp at h
  | cons _ _ => rfl

theorem okCh_of {c : List (List Cell)} (h : okCh c = true) : 0 < c.length ∧ c.length ≤ 1000 := by
  simpa [okCh] using h
theorem okLn_of {c : List (List Cell)} (h : okLn c = true) : c.length ≤ 1000 := by simpa [okLn] using h
theorem okLn_mk {c : List (List Cell)} (h : c.length ≤ 1000) : okLn c = true := by simpa [okLn] using h
theorem okSrt_of {c : List (List Cell)} (h : okSrt c = true) : c.length ≤ 1000 ∧ Asc c := by
  unfold okSrt at h
  simp only [Bool.and_eq_true] at h
  exact ⟨okLn_of h.1, ascB_of h.2⟩
theorem okVec_of {c : List (List Cell)} (h : okVec c = true) : c.length ≤ 1000 ∧ AscV c := by
  unfold okVec at h
  simp only [Bool.and_eq_true] at h
  exact ⟨okLn_of h.1, of_decide_eq_true h.2⟩
theorem okVec_mk {c : List (List Cell)} (h : c.length ≤ 1000) (h2 : AscV c) : okVec c = true := by
  unfold okVec
  simp only [Bool.and_eq_true]
  exact ⟨okLn_mk h, decide_eq_true h2⟩
theorem okSrt_mk {c : List (List Cell)} (h : c.length ≤ 1000) (h2 : Asc c) : okSrt c = true := by
  unfold okSrt
  simp only [Bool.and_eq_true]
  exact ⟨okLn_mk h, ascB_mk h2⟩
theorem okCf_of {c : List (List Cell)} (h : okCf c = true) : c.length ≤ 1000 ∧ c.all isPR = true := by
  unfold okCf at h
  simp only [Bool.and_eq_true] at h
  exact ⟨okLn_of h.1, h.2⟩
theorem okCl_of {c : List (List Cell)} (h : okCl c = true) : c.length ≤ 1000 ∧ c.all isPR = true ∧ ∀ r ∈ c, okCh (nl r 2) = true := by
  unfold okCl at h
  simp only [Bool.and_eq_true] at h
  exact ⟨(okCf_of h.1).1, (okCf_of h.1).2, fun r hr => List.all_eq_true.1 h.2 r hr⟩

theorem isPR_eq {r : List Cell} (h : isPR r = true) : [Cell.int .i64 (nr r 0), Cell.int .i64 (nr r 1), Cell.slice 63 (nl r 2)] = r := by
  unfold isPR at h
  split at h
  · have := Nat.eq_of_beq_eq_true h
    subst this
    rfl
  · cases h

theorem rowAt_mem {l : List (List Cell)} {i : Nat} (h : i < l.length) : Abs.rowAt l i ∈ l := by
  rw [rowAt_eq h]
  exact List.getElem_mem h

theorem pr_at {c : List (List Cell)} (h : c.all isPR = true) {i : Nat} (hi : i < c.length) : [Cell.int .i64 (nr (Abs.rowAt c i) 0), Cell.int .i64 (nr (Abs.rowAt c i) 1), Cell.slice 63 (nl (Abs.rowAt c i) 2)] = Abs.rowAt c i :=
  isPR_eq (List.all_eq_true.1 h _ (rowAt_mem hi))

theorem k79 (c : List (List Cell)) (h : okCh c = true) : runF E (callOf L11) 1 79 [.one (.sl false 63 c)] [] = some ([.one (.sl true 63 c)], []) := by
  have := okCh_of h
  rw [e79]
  exact cf (isNilL_pos (by omega)) (ct (fits_of (by simp; omega)) rfl)

theorem k57 (a n : Int) (c : List (List Cell)) (h : okCh c = true) : runF E (callOf L79) 1 57 [.agg [.int .i64 a, .int .i64 n, .sl false 63 c]] [] = some ([.agg [.int .i64 a, .int .i64 n, .sl false 63 c]], []) := by
  rw [e57]
  exact ct h rfl

/- BINARY SEARCH -/

theorem mid_eq {i j : Nat} (h : i + j < 4611686018427387904) : IntKind.wrap .i64 (shrI .u64 (IntKind.wrap .u64 (IntKind.wrap .i64 ((i : Int) + (j : Int)))) 1) = (((i + j) / 2 : Nat) : Int) := by
  rw [wrap64 (n := (i : Int) + (j : Int)) (by omega) (by omega), wrapu (by omega) (by omega)]
  have e : shrI .u64 ((i : Int) + (j : Int)) 1 = (((i + j) / 2 : Nat) : Int) := by
    unfold shrI
    have e1 : min (Int.toNat 1) IntKind.u64.bits = 1 := by decide
    rw [e1, Int.fdiv_eq_ediv_of_nonneg _ (by decide)]
    omega
  rw [e, wrap64 (by omega) (by omega)]

theorem l76 (c : List (List Cell)) (a n : Int) (p : List (List Cell)) (hc : c.length ≤ 1000) (ha : Asc c) : ∀ (d i j : Nat), j - i ≤ d → i ≤ lowK c (prow a n p) → lowK c (prow a n p) ≤ j → j ≤ c.length →
    ∃ m, goF E (callOf L55) F76 0 m P76_0 (M76_0 c c.length i j a n p) = some ([.one (.int .i64 (lowK c (prow a n p) : Int)), .one (.bool (hasK c (prow a n p)))], []) := by
  intro d
  induction d with
  | zero =>
    intro i j hd h1 h2 h3
    have hi : i = lowK c (prow a n p) := by omega
    subst hi
    refine ⟨1, ?_⟩
    rw [e76_0, hasK_low ha]
    refine cf (decide_eq_false (by omega)) ?_
    by_cases hl : lowK c (prow a n p) < c.length
    · refine ct (decide_eq_true (by omega)) (ct (inB_nat' hl) ?_)
      rw [Int.toNat_natCast, decide_eq_true hl, Bool.true_and, ← cmp_eq]
      rfl
    · rw [decide_eq_false hl, Bool.false_and]
      exact cf (decide_eq_false (by omega)) rfl
  | succ d ih =>
    intro i j hd h1 h2 h3
    by_cases hij : i < j
    · have hlt : (i + j) / 2 < c.length := by omega
      have hcmp := cmp_lt (Abs.rowAt c ((i + j) / 2)) (prow a n p)
      by_cases hk : kLt (Abs.rowAt c ((i + j) / 2)) (prow a n p) = true
      · have hlo : (i + j) / 2 < lowK c (prow a n p) := by
          refine Nat.lt_of_not_le fun hle => ?_
          have := lowK_ge ha hlt hle
          rw [hk] at this
          cases this
        obtain ⟨m, hm⟩ := ih ((i + j) / 2 + 1) j (by omega) (by omega) h2 h3
        refine ⟨m + 1, ?_⟩
        rw [e76_0, mid_eq (by omega), Int.toNat_natCast]
        refine ct (decide_eq_true (by omega)) (ct (inB_nat' hlt) (ct (hcmp.trans hk) ?_))
        rw [nat_wrap (n := c.length) hlt (by omega)]
        exact hm
      · have hlo : lowK c (prow a n p) ≤ (i + j) / 2 := by
          refine Nat.le_of_not_lt fun h => hk (lowK_lt h)
        obtain ⟨m, hm⟩ := ih i ((i + j) / 2) (by omega) h1 hlo (by omega)
        refine ⟨m + 1, ?_⟩
        rw [e76_0, mid_eq (by omega), Int.toNat_natCast]
        exact ct (decide_eq_true (by omega)) (ct (inB_nat' hlt) (cf (hcmp.trans (by simpa using hk)) hm))
    · exact ih i j (by omega) h1 h2 h3

theorem k76 (c : List (List Cell)) (a n : Int) (p : List (List Cell)) (h : okSrt c = true) : ∃ m, runF E (callOf L55) m 76 [.one (.sl false 45 c), .agg [.int .i64 a, .int .i64 n, .sl false 63 p], .one (.fn 45 [])] [] = some ([.one (.int .i64 (lowK c (prow a n p) : Int)), .one (.bool (hasK c (prow a n p)))], []) := by
  obtain ⟨h1, h2⟩ := okSrt_of h
  obtain ⟨m, hm⟩ := l76 c a n p h1 h2 c.length 0 c.length (by omega) (by omega) (lowK_le _ _) (by omega)
  exact ⟨m + 1, by rw [e76]; exact hm⟩

theorem k51 (c : List (List Cell)) (a n : Int) (p : List (List Cell)) (h : okSrt c = true) : runF E (callOf L76) 1 51 [.one (.sl false 45 c), .agg [.int .i64 a, .int .i64 n, .sl false 63 p]] [] = some ([.one (.bool (hasK c (prow a n p)))], []) := by
  rw [e51]
  exact ct h rfl

theorem hasK_prow (c : List (List Cell)) (r : List Cell) (p : List (List Cell)) : hasK c (prow (nr r 0) (nr r 1) p) = hasK c r := rfl

theorem l19 (c d : List (List Cell)) (hs : okSrt c = true) (hd : d.length ≤ 1000) : ∀ (e i : Nat), i + e = d.length →
    ∃ m, goF E (callOf L51) F19 0 m P19_0 (M19_0 c d d.length i) = some ([.one (.bool (contK c (d.drop i)))], [])
  | 0, i, hi => by
    refine ⟨1, ?_⟩
    rw [e19_0]
    have : d.drop i = [] := List.drop_eq_nil_of_le (by omega)
    rw [this]
    exact cf (decide_eq_false (by omega)) rfl
  | e + 1, i, hi => by
    have hi' : i < d.length := by omega
    obtain ⟨m, hm⟩ := l19 c d hs hd e (i + 1) (by omega)
    refine ⟨m + 1, ?_⟩
    rw [e19_0, Int.toNat_natCast, drop_cons d i hi', hasK_prow]
    refine ct (decide_eq_true (by omega)) (ct (inB_nat' hi') (ct hs ?_))
    unfold contK at hm ⊢
    rw [List.all_cons, nat_wrap (n := d.length) hi' (by omega), hm]
    cases hasK c (Abs.rowAt d i) <;> rfl

theorem k19 (c d : List (List Cell)) (h : (okSrt c && okLn d) = true) : ∃ m, runF E (callOf L51) m 19 [.one (.sl false 45 c), .one (.sl false 45 d)] [] = some ([.one (.bool (contK c d))], []) := by
  simp only [Bool.and_eq_true] at h
  obtain ⟨m, hm⟩ := l19 c d h.1 (okLn_of h.2) d.length 0 (by omega)
  exact ⟨m + 1, by rw [e19]; exact hm⟩

theorem k21 (c d : List (List Cell)) (h : (okSrt c && okSrt d) = true) : runF E (callOf L19) 1 21 [.one (.sl false 45 c), .one (.sl false 45 d)] [] = some ([.one (.bool (contK c d && contK d c))], []) := by
  simp only [Bool.and_eq_true] at h
  have h1 : okLn c = true := okLn_mk (okSrt_of h.1).1
  have h2 : okLn d = true := okLn_mk (okSrt_of h.2).1
  rw [e21, h.1, h.2, h1, h2]
  cases contK c d <;> rfl

/- VECTORS -/

theorem k92 (u k a : Int) : runF E (callOf L21) 1 92 [.agg [.int .i64 u, .int .i64 k], .one (.int .i64 a)] [] = some ([.one (.int .i64 (cmpI u a))], []) := by
  rw [e92]

theorem cmpI_lt (u a : Int) : decide (cmpI u a < 0) = decide (u < a) := by
  unfold cmpI
  rw [Bool.eq_iff_iff, decide_eq_true_eq, decide_eq_true_eq]
  (repeat' split) <;> omega

theorem cmpI_eq (u a : Int) : (cmpI u a == 0) = decide (u = a) := by
  unfold cmpI
  rw [Bool.eq_iff_iff, beq_iff_eq, decide_eq_true_eq]
  (repeat' split) <;> omega

theorem l91 (c : List (List Cell)) (a : Int) (hc : c.length ≤ 1000) (ha : AscV c) : ∀ (d i j : Nat), j - i ≤ d → i ≤ lowV c a → lowV c a ≤ j → j ≤ c.length →
    ∃ m, goF E (callOf L92) F91 0 m P91_0 (M91_0 c a c.length i j) = some ([.one (.int .i64 (lowV c a : Int)), .one (.bool (hasV c a))], []) := by
  intro d
  induction d with
  | zero =>
    intro i j hd h1 h2 h3
    have hi : i = lowV c a := by omega
    subst hi
    refine ⟨1, ?_⟩
    rw [e91_0, hasV_low ha]
    refine cf (decide_eq_false (by omega)) ?_
    by_cases hl : lowV c a < c.length
    · refine ct (decide_eq_true (by omega)) (ct (inB_nat' hl) ?_)
      rw [Int.toNat_natCast, decide_eq_true hl, Bool.true_and, ← cmpI_eq]
    · rw [decide_eq_false hl, Bool.false_and]
      exact cf (decide_eq_false (by omega)) rfl
  | succ d ih =>
    intro i j hd h1 h2 h3
    by_cases hij : i < j
    · have hlt : (i + j) / 2 < c.length := by omega
      have hcmp := cmpI_lt (nr (Abs.rowAt c ((i + j) / 2)) 0) a
      by_cases hk : nr (Abs.rowAt c ((i + j) / 2)) 0 < a
      · have hlo : (i + j) / 2 < lowV c a := Nat.lt_of_not_le fun hle => lowV_ge ha hlt hle hk
        obtain ⟨m, hm⟩ := ih ((i + j) / 2 + 1) j (by omega) (by omega) h2 h3
        refine ⟨m + 1, ?_⟩
        rw [e91_0, mid_eq (by omega), Int.toNat_natCast]
        refine ct (decide_eq_true (by omega)) (ct (inB_nat' hlt) (ct (hcmp.trans (decide_eq_true hk)) ?_))
        rw [nat_wrap (n := c.length) hlt (by omega)]
        exact hm
      · have hlo : lowV c a ≤ (i + j) / 2 := Nat.le_of_not_lt fun h => hk (lowV_lt h)
        obtain ⟨m, hm⟩ := ih i ((i + j) / 2) (by omega) h1 hlo (by omega)
        refine ⟨m + 1, ?_⟩
        rw [e91_0, mid_eq (by omega), Int.toNat_natCast]
        exact ct (decide_eq_true (by omega)) (ct (inB_nat' hlt) (cf (hcmp.trans (decide_eq_false hk)) hm))
    · exact ih i j (by omega) h1 h2 h3

theorem k91 (c : List (List Cell)) (a : Int) (h : okVec c = true) : ∃ m, runF E (callOf L92) m 91 [.one (.sl false 67 c), .one (.int .i64 a), .one (.fn 92 [])] [] = some ([.one (.int .i64 (lowV c a : Int)), .one (.bool (hasV c a))], []) := by
  obtain ⟨h1, h2⟩ := okVec_of h
  obtain ⟨m, hm⟩ := l91 c a h1 h2 c.length 0 c.length (by omega) (by omega) (lowV_le _ _) (by omega)
  exact ⟨m + 1, by rw [e91]; exact hm⟩

theorem k81 (c : List (List Cell)) (a : Int) (h : okVec c = true) : runF E (callOf L91) 1 81 [.one (.sl false 67 c), .one (.int .i64 a)] [] = some ([.one (.int .i64 (lowV c a : Int)), .one (.bool (hasV c a))], []) := by
  rw [e81]
  exact ct h rfl

theorem k62 (c : List (List Cell)) (a : Int) (h : okVec c = true) : runF E (callOf L81) 1 62 [.one (.sl false 67 c), .one (.int .i64 a)] [] = some ([.one (.int .i64 (cntV c a))], []) := by
  obtain ⟨h1, h2⟩ := okVec_of h
  rw [e62, Int.toNat_natCast]
  refine ct h ?_
  by_cases hh : hasV c a = true
  · have := hasV_low h2 a
    rw [hh] at this
    have := this.symm
    simp only [Bool.and_eq_true, decide_eq_true_eq] at this
    rw [cntV_low h2 hh]
    exact ct hh (ct (inB_nat' this.1) rfl)
  · have hh : hasV c a = false := by simpa using hh
    rw [cntV_not hh]
    exact cf hh rfl

/-- entries that have been counted -/
def CntOk (v : List (List Cell)) (k : Nat) : Prop := ∀ e ∈ v, isEn e = true ∧ 0 ≤ nr e 1 ∧ nr e 1 ≤ k

theorem cnt_mono {v : List (List Cell)} {k j : Nat} (h : CntOk v k) (hj : k ≤ j) : CntOk v j := fun e he => by
  have := h e he
  exact ⟨this.1, this.2.1, by omega⟩

theorem isEn_eq {r : List Cell} (h : isEn r = true) : r = ent (nr r 0) (nr r 1) := by
  unfold isEn at h
  split at h
  · rfl
  · cases h

theorem set_last {v : List (List Cell)} (h : 0 < v.length) (x : List Cell) : v.set (v.length - 1) x = v.take (v.length - 1) ++ [x] := by
  rw [List.set_eq_take_append_cons_drop, if_pos (by omega)]
  rw [show v.length - 1 + 1 = v.length by omega, List.drop_length]

theorem vstep_cnt {v : List (List Cell)} {k : Nat} (h : CntOk v k) (a : Int) : CntOk (vstep v a) (k + 1) := by
  unfold vstep
  split
  · rename_i hh
    intro e he
    rcases List.mem_append.1 he with he | he
    · exact cnt_mono h (Nat.le_succ k) e (List.mem_of_mem_take he)
    · rw [List.mem_singleton] at he
      subst he
      have := h _ (rowAt_mem (l := v) (i := v.length - 1) (by omega))
      refine ⟨rfl, ?_, ?_⟩
      · show 0 ≤ nr (Abs.rowAt v (v.length - 1)) 1 + 1
        omega
      · show nr (Abs.rowAt v (v.length - 1)) 1 + 1 ≤ _
        omega
  · intro e he
    rcases List.mem_append.1 he with he | he
    · exact cnt_mono h (Nat.le_succ k) e he
    · rw [List.mem_singleton] at he
      subst he
      have e1 : nr (ent a 1) 1 = 1 := rfl
      refine ⟨rfl, ?_, ?_⟩ <;> rw [e1] <;> omega

theorem vstep_len (v : List (List Cell)) (a : Int) : (vstep v a).length ≤ v.length + 1 := by
  unfold vstep
  split <;> simp <;> omega

theorem setCells_en {e : List Cell} (h : isEn e = true) (x : Int) : setCells e 1 [Cell.int .i64 x] = ent (nr e 0) x := by
  unfold isEn at h
  split at h
  · rfl
  · cases h

theorem l17 (c : List (List Cell)) (hc : c.length ≤ 1000) : ∀ (d i : Nat) (v : List (List Cell)), i + d = c.length → v.length ≤ i → CntOk v i →
    ∃ m, goF E (callOf L62) F17 0 m P17_0 (M17_0 v.length c c.length i v) = some ([.one (.sl false 67 (vecF v (c.drop i)))], [])
  | 0, i, v, hi, hv, ho => by
    refine ⟨1, ?_⟩
    rw [e17_0]
    have : c.drop i = [] := List.drop_eq_nil_of_le (by omega)
    rw [this]
    exact cf (decide_eq_false (by omega)) (ct (Nat.beq_refl _) rfl)
  | d + 1, i, v, hi, hv, ho => by
    have hi' : i < c.length := by omega
    have hl := vstep_len v (nr (Abs.rowAt c i) 0)
    obtain ⟨m, hm⟩ := l17 c hc d (i + 1) (vstep v (nr (Abs.rowAt c i) 0)) (by omega) (by omega) (vstep_cnt ho _)
    refine ⟨m + 1, ?_⟩
    have e1 : vecF v (c.drop i) = vecF (vstep v (nr (Abs.rowAt c i) 0)) (c.drop (i + 1)) := by rw [drop_cons c i hi']; rfl
    rw [e17_0, e1, ← hm, Int.toNat_natCast, nat_wrap (n := c.length) hi' (by omega)]
    refine ct (decide_eq_true (by omega)) (ct (inB_nat' hi') ?_)
    have hnew : ∀ h : ¬ (0 < v.length ∧ nr (Abs.rowAt v (v.length - 1)) 0 = nr (Abs.rowAt c i) 0),
        cond (Nat.beq v.length v.length) (cond (fits (v.length + [[Cell.int .i64 (nr (Abs.rowAt c i) 0), Cell.int .i64 1]].length))
          (goF E (callOf L62) F17 0 m P17_0 (M17_0 (v.length + [[Cell.int .i64 (nr (Abs.rowAt c i) 0), Cell.int .i64 1]].length) c c.length ((i + 1 : Nat) : Int) (v ++ [[Cell.int .i64 (nr (Abs.rowAt c i) 0), Cell.int .i64 1]]))) none) none =
        goF E (callOf L62) F17 0 m P17_0 (M17_0 (vstep v (nr (Abs.rowAt c i) 0)).length c c.length ((i + 1 : Nat) : Int) (vstep v (nr (Abs.rowAt c i) 0))) := fun h => by
      refine ct (Nat.beq_refl _) (ct (fits_of (by simp; omega)) ?_)
      unfold vstep
      rw [if_neg h, List.length_append]
      rfl
    by_cases h0 : 0 < v.length
    · have hw : IntKind.wrap .i64 ((v.length : Int) - 1) = ((v.length - 1 : Nat) : Int) := by rw [wrap64 (by omega) (by omega)]; omega
      rw [hw, Int.toNat_natCast]
      have hin : inB ((v.length - 1 : Nat) : Int) v.length = true := inB_nat' (by omega)
      have hbl : Nat.blt (v.length - 1) v.length = true := blt_mk (by omega)
      refine ct (decide_eq_true (by omega)) (ct hin (ct hbl ?_))
      by_cases h1 : nr (Abs.rowAt v (v.length - 1)) 0 = nr (Abs.rowAt c i) 0
      · refine ct (beq_iff_eq.2 h1) (ct hin (ct hbl (ct hin (ct hbl ?_))))
        have hen := ho _ (rowAt_mem (l := v) (i := v.length - 1) (by omega))
        rw [setN_eq, set_last h0, setCells_en hen.1, wrap64 (by omega) (by omega), h1]
        unfold vstep
        rw [if_pos ⟨h0, h1⟩]
        have e3 : (v.take (v.length - 1) ++ [ent (nr (Abs.rowAt c i) 0) (nr (Abs.rowAt v (v.length - 1)) 1 + 1)]).length = v.length := by simp; omega
        rw [e3]
      · exact cf (beq_eq_false_iff_ne.2 h1) (hnew fun h => h1 h.2)
    · exact cf (decide_eq_false (by omega)) (hnew fun h => h0 h.1)

theorem k17 (c : List (List Cell)) (h : okLn c = true) : ∃ m, runF E (callOf L62) m 17 [.one (.sl false 45 c)] [] = some ([.one (.sl false 67 (vecK c))], []) := by
  obtain ⟨m, hm⟩ := l17 c (okLn_of h) c.length 0 [] (by omega) (by simp) (fun e he => by cases he)
  exact ⟨m + 1, by rw [e17]; exact hm⟩

theorem k58 (a n : Int) (p d : List (List Cell)) (h : okSrt d = true) : runF E (callOf L17) 1 58 [.agg [.int .i64 a, .int .i64 n, .sl false 63 p], .one (.ptr 0 0)] [.var [.sl false 45 d]] = some ([.one (.bool (hasK d (prow a n p)))], [.var [.sl false 45 d]]) := by
  rw [e58]
  exact ct h rfl

theorem k61 (a n : Int) (p v : List (List Cell)) (h : okVec v = true) : runF E (callOf L58) 1 61 [.agg [.int .i64 a, .int .i64 n, .sl false 63 p], .one (.ptr 0 0)] [.var [.sl false 67 v]] = some ([.one (.bool (decide (n ≤ cntV v a)))], [.var [.sl false 67 v]]) := by
  rw [e61]
  exact ct h rfl

/- FILTER -/

theorem l54 (c : List (List Cell)) (hc : c.length ≤ 1000) (hp : c.all isPR = true) (hn : ∀ r ∈ c, okCh (nl r 2) = true) : ∀ (d i : Nat) (v : List (List Cell)), i + d = c.length → v.length ≤ i →
    ∃ m, goF E (callOf L61) F54 0 m P54_0 (M54_0 v.length c c.length i v) = some ([.one (.msl 45 0 (v ++ c.drop i).length)], [.arr 45 (v ++ c.drop i)])
  | 0, i, v, hi, hv => by
    refine ⟨1, ?_⟩
    rw [e54_0]
    have : c.drop i = [] := List.drop_eq_nil_of_le (by omega)
    rw [this, List.append_nil]
    exact cf (decide_eq_false (by omega)) rfl
  | d + 1, i, v, hi, hv => by
    have hi' : i < c.length := by omega
    obtain ⟨m, hm⟩ := l54 c hc hp hn d (i + 1) (v ++ [Abs.rowAt c i]) (by omega) (by simp; omega)
    refine ⟨m + 1, ?_⟩
    rw [e54_0, Int.toNat_natCast, nat_wrap (n := c.length) hi' (by omega), pr_at hp hi', drop_cons c i hi']
    rw [List.append_assoc, len_snoc] at hm
    exact ct (decide_eq_true (by omega)) (ct (inB_nat' hi') (ct rfl (ct (hn _ (rowAt_mem hi')) (ct (Nat.beq_refl _) (ct (fits_of (by simp; omega)) hm)))))

theorem k54 (c : List (List Cell)) (h : okCl c = true) : ∃ m, runF E (callOf L61) m 54 [.one (.sl false 45 c), .one (.fn 55 [])] [] = some ([.one (.msl 45 0 c.length)], [.arr 45 c]) := by
  obtain ⟨h1, h2, h3⟩ := okCl_of h
  obtain ⟨m, hm⟩ := l54 c h1 h2 h3 c.length 0 [] (by omega) (by simp)
  exact ⟨m + 1, by rw [e54]; exact hm⟩

theorem l54b (c b : List (List Cell)) (hb : okSrt b = true) (hc : c.length ≤ 1000) (hp : c.all isPR = true) (hn : ∀ r ∈ c, okCh (nl r 2) = true) : ∀ (d i : Nat) (v : List (List Cell)), i + d = c.length → v.length ≤ i →
    ∃ m, goF E (callOf L61) F54 1 m P54_0_c1 (M54_0_c1 v.length c c.length i b v) = some ([.one (.msl 45 1 (v ++ meetK (c.drop i) b).length)], [.var [.sl false 45 b], .arr 45 (v ++ meetK (c.drop i) b)])
  | 0, i, v, hi, hv => by
    refine ⟨1, ?_⟩
    rw [e54_0_c1]
    have : c.drop i = [] := List.drop_eq_nil_of_le (by omega)
    rw [this]
    refine cf (decide_eq_false (by omega)) ?_
    simp [meetK]
  | d + 1, i, v, hi, hv => by
    have hi' : i < c.length := by omega
    by_cases hk : hasK b (Abs.rowAt c i) = true
    · obtain ⟨m, hm⟩ := l54b c b hb hc hp hn d (i + 1) (v ++ [Abs.rowAt c i]) (by omega) (by simp; omega)
      refine ⟨m + 1, ?_⟩
      have e1 : meetK (c.drop i) b = Abs.rowAt c i :: meetK (c.drop (i + 1)) b := by
        rw [drop_cons c i hi']
        unfold meetK
        rw [List.filter_cons, if_pos hk]
      rw [e54_0_c1, Int.toNat_natCast, nat_wrap (n := c.length) hi' (by omega), pr_at hp hi', e1, hasK_prow]
      rw [List.append_assoc, len_snoc] at hm
      exact ct (decide_eq_true (by omega)) (ct (inB_nat' hi') (ct hb (ct hk (ct (hn _ (rowAt_mem hi')) (ct (Nat.beq_refl _) (ct (fits_of (by simp; omega)) hm))))))
    · obtain ⟨m, hm⟩ := l54b c b hb hc hp hn d (i + 1) v (by omega) (by omega)
      refine ⟨m + 1, ?_⟩
      have e1 : meetK (c.drop i) b = meetK (c.drop (i + 1)) b := by
        rw [drop_cons c i hi']
        unfold meetK
        rw [List.filter_cons, if_neg hk]
      rw [e54_0_c1, Int.toNat_natCast, nat_wrap (n := c.length) hi' (by omega), e1, hasK_prow]
      exact ct (decide_eq_true (by omega)) (ct (inB_nat' hi') (ct hb (cf (by simpa using hk) hm)))

theorem k54b (c d : List (List Cell)) (h : (okCl c && okSrt d) = true) : ∃ m, runF E (callOf L61) m 54 [.one (.sl false 45 c), .one (.fn 58 [.ptr 0 0])] [.var [.sl false 45 d]] = some ([.one (.msl 45 1 (meetK c d).length)], [.var [.sl false 45 d], .arr 45 (meetK c d)]) := by
  simp only [Bool.and_eq_true] at h
  obtain ⟨h1, h2, h3⟩ := okCl_of h.1
  obtain ⟨m, hm⟩ := l54b c d h.2 h1 h2 h3 c.length 0 [] (by omega) (by simp)
  exact ⟨m + 1, by rw [e54_c1]; exact hm⟩

theorem l54c (c b : List (List Cell)) (hb : okVec b = true) (hc : c.length ≤ 1000) (hp : c.all isPR = true) (hn : ∀ r ∈ c, okCh (nl r 2) = true) : ∀ (d i : Nat) (v : List (List Cell)), i + d = c.length → v.length ≤ i →
    ∃ m, goF E (callOf L61) F54 1 m P54_0_c2 (M54_0_c2 v.length c c.length i b v) = some ([.one (.msl 45 1 (v ++ restr (c.drop i) b).length)], [.var [.sl false 67 b], .arr 45 (v ++ restr (c.drop i) b)])
  | 0, i, v, hi, hv => by
    refine ⟨1, ?_⟩
    rw [e54_0_c2]
    have : c.drop i = [] := List.drop_eq_nil_of_le (by omega)
    rw [this]
    refine cf (decide_eq_false (by omega)) ?_
    simp [restr]
  | d + 1, i, v, hi, hv => by
    have hi' : i < c.length := by omega
    by_cases hk : nr (Abs.rowAt c i) 1 ≤ cntV b (nr (Abs.rowAt c i) 0)
    · obtain ⟨m, hm⟩ := l54c c b hb hc hp hn d (i + 1) (v ++ [Abs.rowAt c i]) (by omega) (by simp; omega)
      refine ⟨m + 1, ?_⟩
      have e1 : restr (c.drop i) b = Abs.rowAt c i :: restr (c.drop (i + 1)) b := by
        rw [drop_cons c i hi']
        unfold restr
        rw [List.filter_cons, if_pos (decide_eq_true hk)]
      rw [e54_0_c2, Int.toNat_natCast, nat_wrap (n := c.length) hi' (by omega), pr_at hp hi', e1]
      rw [List.append_assoc, len_snoc] at hm
      exact ct (decide_eq_true (by omega)) (ct (inB_nat' hi') (ct hb (ct (decide_eq_true hk) (ct (hn _ (rowAt_mem hi')) (ct (Nat.beq_refl _) (ct (fits_of (by simp; omega)) hm))))))
    · obtain ⟨m, hm⟩ := l54c c b hb hc hp hn d (i + 1) v (by omega) (by omega)
      refine ⟨m + 1, ?_⟩
      have e1 : restr (c.drop i) b = restr (c.drop (i + 1)) b := by
        rw [drop_cons c i hi']
        unfold restr
        rw [List.filter_cons, if_neg (by simpa using hk)]
      rw [e54_0_c2, Int.toNat_natCast, nat_wrap (n := c.length) hi' (by omega), e1]
      exact ct (decide_eq_true (by omega)) (ct (inB_nat' hi') (ct hb (cf (decide_eq_false hk) hm)))

theorem k54c (c v : List (List Cell)) (h : (okCl c && okVec v) = true) : ∃ m, runF E (callOf L61) m 54 [.one (.sl false 45 c), .one (.fn 61 [.ptr 0 0])] [.var [.sl false 67 v]] = some ([.one (.msl 45 1 (restr c v).length)], [.var [.sl false 67 v], .arr 45 (restr c v)]) := by
  simp only [Bool.and_eq_true] at h
  obtain ⟨h1, h2, h3⟩ := okCl_of h.1
  obtain ⟨m, hm⟩ := l54c c v h.2 h1 h2 h3 c.length 0 [] (by omega) (by simp)
  exact ⟨m + 1, by rw [e54_c2]; exact hm⟩

theorem k26 (c d : List (List Cell)) (h : (okCl c && okSrt d) = true) : runF E (callOf L24) 1 26 [.one (.sl false 45 c), .one (.sl false 45 d)] [] = some ([.one (.sl false 45 (meetK c d))], []) := by
  rw [e26]
  exact ct h (ct (Nat.beq_refl _) rfl)

theorem k33 (c v : List (List Cell)) (h : (okCl c && okVec v) = true) : runF E (callOf L26) 1 33 [.one (.sl false 45 c), .one (.sl false 67 v)] [] = some ([.one (.sl false 45 (restr c v))], []) := by
  rw [e33]
  exact ct h (ct (Nat.beq_refl _) rfl)

/- UNION -/

theorem insK_len : ∀ (l : List (List Cell)) (p : List Cell), (insK l p).length ≤ l.length + 1
  | [], _ => by simp [insK]
  | q :: l, p => by
    unfold insK
    have := insK_len l p
    split
    · simp
    · split
      · simp
      · simp; omega

theorem k56 (n : Nat) (k : Int) (x y : List (List Cell)) (h : okIns n k x y = true) : runF E (callOf L54) 1 56 [.one (.msl 45 0 n), .one (.int .i64 k), .one (.sl false 45 y)] [.arr 45 x] = some ([.one (.msl 45 1 (x.length + y.length))], [.dead, .arr 45 (insL x y (Int.toNat k))]) :=
  (ct rfl (ct h rfl) : cond (Nat.beq 45 45 && (Nat.beq 45 45 && Nat.beq 45 45)) (cond (okIns n k x y) (some ([AV.one (.msl 45 1 (x.length + y.length))], [Block.dead, .arr 45 (insL x y (Int.toNat k))])) none) none = _)

theorem in24 (d out : List (List Cell)) (a n : Int) (c : List (List Cell)) (hc : okCh c = true) (ho : out.length ≤ 100000) (i : Nat) (hi : i < 1000) (R : List AV × List Block)
    (hR : ∃ m, goF E (callOf L56) F24 0 m P24_0 (M24_0 (insK out (prow a n c)).length d d.length ((i + 1 : Nat) : Int) (insK out (prow a n c))) = some R) :
    ∀ (e k : Nat), k + e = out.length → (∀ j, j < k → kLt (Abs.rowAt out j) (prow a n c) = true) →
    ∃ m, goF E (callOf L56) F24 0 m P24_1 (M24_1 out.length d d.length i out.length out.length k out a n c) = some R := by
  obtain ⟨m0, hm0⟩ := hR
  have hpre : ∀ k, k ≤ out.length → (∀ j, j < k → kLt (Abs.rowAt out j) (prow a n c) = true) → ∀ q ∈ out.take k, kLt q (prow a n c) = true := fun k hk h q hq => by
    obtain ⟨j, hj, rfl⟩ := List.getElem_of_mem hq
    have hj' : j < k := by simp at hj; omega
    have := h j hj'
    rw [rowAt_eq (by omega)] at this
    simpa using this
  intro e
  induction e with
  | zero =>
    intro k hk h
    have hins : insK out (prow a n c) = out ++ [prow a n c] := insK_end fun q hq => by
      have := hpre k (by omega) h q
      rw [List.take_of_length_le (by omega)] at this
      exact this hq
    refine ⟨m0 + 1, ?_⟩
    rw [e24_1]
    refine cf (decide_eq_false (by omega)) (ct hc (ct (Nat.beq_refl _) (ct (fits_of (by simp; omega)) ?_)))
    rw [nat_wrap (n := 1000) hi (by omega), ← hm0, hins, List.length_append]
    rfl
  | succ e ih =>
    intro k hk h
    have hk' : k < out.length := by omega
    have hsplit : out = out.take k ++ (Abs.rowAt out k :: out.drop (k + 1)) := by rw [← drop_cons out k hk', List.take_append_drop]
    have happ : insK out (prow a n c) = out.take k ++ insK (Abs.rowAt out k :: out.drop (k + 1)) (prow a n c) := by
      conv => lhs; rw [hsplit]
      exact insK_app (hpre k (by omega) h)
    have c1 := cmp_eq (prow a n c) (Abs.rowAt out k)
    have c2 := cmp_lt (prow a n c) (Abs.rowAt out k)
    by_cases h1 : kEq (prow a n c) (Abs.rowAt out k) = true
    · refine ⟨m0 + 1, ?_⟩
      rw [e24_1, Int.toNat_natCast]
      refine ct (decide_eq_true (by omega)) (ct (inB_nat' hk') (ct (blt_mk hk') (ct (c1.trans h1) ?_)))
      rw [nat_wrap (n := 1000) hi (by omega), ← hm0, happ, insK, if_pos h1, ← hsplit]
    · have h1' : kEq (prow a n c) (Abs.rowAt out k) = false := by simpa using h1
      by_cases h2 : kLt (prow a n c) (Abs.rowAt out k) = true
      · refine ⟨m0 + 1, ?_⟩
        rw [e24_1, Int.toNat_natCast]
        have hok : okIns out.length k out [[Cell.int .i64 a, Cell.int .i64 n, Cell.slice 63 c]] = true := by
          unfold okIns
          simp only [Bool.and_eq_true, decide_eq_true_eq]
          exact ⟨Nat.beq_refl _, by omega, by omega, by simp, fits_of (by simp; omega)⟩
        refine ct (decide_eq_true (by omega)) (ct (inB_nat' hk') (ct (blt_mk hk') (cf (c1.trans h1') (ct (c2.trans h2) (ct hc (ct hok ?_))))))
        have hins : insK out (prow a n c) = insL out [[Cell.int .i64 a, Cell.int .i64 n, Cell.slice 63 c]] k := by
          rw [happ, insK, if_neg h1, if_pos h2, ← drop_cons out k hk']
          simp [insL, prow]
        have hlen : (insL out [[Cell.int .i64 a, Cell.int .i64 n, Cell.slice 63 c]] k).length = out.length + [[Cell.int .i64 a, Cell.int .i64 n, Cell.slice 63 c]].length := by
          simp [insL]; omega
        rw [nat_wrap (n := 1000) hi (by omega), ← hm0, hins, hlen]
      · have h2' : kLt (prow a n c) (Abs.rowAt out k) = false := by simpa using h2
        obtain ⟨m, hm⟩ := ih (k + 1) (by omega) fun j hj => by
          by_cases hjk : j = k
          · subst hjk
            rw [kEq_false] at h1'
            rw [kLt_false] at h2'
            rw [kLt_iff]
            omega
          · exact h j (by omega)
        refine ⟨m + 1, ?_⟩
        rw [e24_1, Int.toNat_natCast]
        refine ct (decide_eq_true (by omega)) (ct (inB_nat' hk') (ct (blt_mk hk') (cf (c1.trans h1') (cf (c2.trans h2') ?_))))
        rw [nat_wrap (n := out.length) hk' (by omega)]
        exact hm

theorem l24 (d : List (List Cell)) (hd : d.length ≤ 1000) (hp : d.all isPR = true) (hn : ∀ r ∈ d, okCh (nl r 2) = true) : ∀ (e i : Nat) (out : List (List Cell)), i + e = d.length → out.length ≤ 1000 + i →
    ∃ m, goF E (callOf L56) F24 0 m P24_0 (M24_0 out.length d d.length i out) = some ([.one (.sl false 45 (uniK out (d.drop i)))], [])
  | 0, i, out, hi, ho => by
    refine ⟨1, ?_⟩
    rw [e24_0]
    have : d.drop i = [] := List.drop_eq_nil_of_le (by omega)
    rw [this]
    exact cf (decide_eq_false (by omega)) (ct (Nat.beq_refl _) rfl)
  | e + 1, i, out, hi, ho => by
    have hi' : i < d.length := by omega
    have hl := insK_len out (Abs.rowAt d i)
    have hR := l24 d hd hp hn e (i + 1) (insK out (Abs.rowAt d i)) (by omega) (by omega)
    have e1 : uniK out (d.drop i) = uniK (insK out (Abs.rowAt d i)) (d.drop (i + 1)) := by rw [drop_cons d i hi', uniK_cons]
    have e2 : prow (nr (Abs.rowAt d i) 0) (nr (Abs.rowAt d i) 1) (nl (Abs.rowAt d i) 2) = Abs.rowAt d i := pr_at hp hi'
    rw [← e1, ← e2] at hR
    obtain ⟨m, hm⟩ := in24 d out _ _ _ (hn _ (rowAt_mem hi')) (by omega) i (by omega) _ hR out.length 0 (by omega) (fun j hj => by omega)
    refine ⟨m + 1, ?_⟩
    rw [e24_0, Int.toNat_natCast]
    exact ct (decide_eq_true (by omega)) (ct (inB_nat' hi') hm)

theorem k24 (c d : List (List Cell)) (h : (okCl c && okCl d) = true) : ∃ m, runF E (callOf L56) m 24 [.one (.sl false 45 c), .one (.sl false 45 d)] [] = some ([.one (.sl false 45 (uniK c d))], []) := by
  simp only [Bool.and_eq_true] at h
  obtain ⟨h1, _, _⟩ := okCl_of h.1
  obtain ⟨h4, h5, h6⟩ := okCl_of h.2
  obtain ⟨m, hm⟩ := l24 d h4 h5 h6 d.length 0 c (by omega) (by omega)
  exact ⟨m + 1, by rw [e24]; exact ct h.1 hm⟩

theorem vecF_inv : ∀ (c v : List (List Cell)) (k : Nat), CntOk v k → CntOk (vecF v c) (k + c.length) ∧ (vecF v c).length ≤ v.length + c.length
  | [], v, k, h => ⟨h, Nat.le_refl _⟩
  | r :: c, v, k, h => by
    have := vecF_inv c (vstep v (nr r 0)) (k + 1) (vstep_cnt h _)
    have hl := vstep_len v (nr r 0)
    show CntOk (vecF (vstep v (nr r 0)) c) _ ∧ _
    simp only [List.length_cons]
    refine ⟨cnt_mono this.1 (by omega), ?_⟩
    show (vecF (vstep v (nr r 0)) c).length ≤ _
    omega

theorem vecK_cnt (c : List (List Cell)) : CntOk (vecK c) c.length ∧ (vecK c).length ≤ c.length := by
  have := vecF_inv c [] 0 (fun e he => by cases he)
  simpa [vecK] using this

theorem cntV_bound {v : List (List Cell)} {k : Nat} (h : CntOk v k) (a : Int) : 0 ≤ cntV v a ∧ cntV v a ≤ k := by
  induction v with
  | nil => simp [cntV]
  | cons e v ih =>
    unfold cntV
    split
    · exact (h e List.mem_cons_self).2
    · exact ih fun x hx => h x (List.mem_cons_of_mem _ hx)

theorem k34 (c : List (List Cell)) (a n : Int) (p : List (List Cell)) (h : okAdd c p = true) : runF E (callOf L33) 1 34 [.one (.sl false 45 c), .agg [.int .i64 a, .int .i64 n, .sl false 63 p]] [] = some ([.one (.sl false 45 (addC c a n p).1), .one (.int .i64 (addC c a n p).2)], []) := by
  unfold okAdd at h
  simp only [Bool.and_eq_true, decide_eq_true_eq] at h
  obtain ⟨h1, h2, h3⟩ := h
  have hs := okSrt_of h2
  have hb := vecK_cnt c
  have hc := cntV_bound hb.1 a
  rw [e34]
  unfold addC
  refine ct (decide_eq_true h3) ?_
  by_cases hv : vProp a n p = 0
  · rw [if_neg (by simpa using hv)]
    refine cf (by simpa using hv) (ct h2 ?_)
    by_cases hh : hasK c (prow a n p) = true
    · rw [if_pos hh]
      exact ct hh rfl
    · rw [if_neg hh]
      refine cf (by simpa using hh) (ct (okLn_mk hs.1) (ct (okVec_mk (by omega) (vecK_asc hs.2)) ?_))
      rw [wrap64 (by omega) (by omega)]
      by_cases hn : n = cntV (vecK c) a + 1
      · rw [if_neg (by simpa using hn)]
        have hp := vProp_ok hv
        have hone : okCl [[Cell.int .i64 a, Cell.int .i64 n, Cell.slice 63 p]] = true := by
          have h6 : okCh p = true := by
            unfold okCh
            simp only [Bool.and_eq_true, decide_eq_true_eq]
            omega
          have : nl [Cell.int .i64 a, Cell.int .i64 n, Cell.slice 63 p] 2 = p := rfl
          simp [okCl, okCf, okLn, isPR, this, h6]
        refine cf (by simpa using hn) (ct (by rw [h1, hone]; rfl) rfl)
      · rw [if_pos hn]
        exact ct (by simpa using hn) rfl
  · rw [if_pos hv]
    exact ct (by simpa using hv) rfl

end Go.Proofs.Ytohikghidhdhjaa
