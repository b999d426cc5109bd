/-
  The contracts of the program's functions over sets of proposals.
-/
import Derived.Test.YtdgijohgncchiaaCfg
namespace Go.Proofs.Ytdgijohgncchiaa
open Go.Abs

theorem cmp_eq (r q : List Cell) : (cmpP (nr r 0) (nr r 1) (nr q 0) (nr q 1) == 0) = kEq r q := by
  rw [Bool.eq_iff_iff, beq_iff_eq, kEq_iff]
  have := cmpP_cases (nr r 0) (nr r 1) (nr q 0) (nr q 1)
  omega

theorem cmp_lt (r q : List Cell) : decide (cmpP (nr r 0) (nr r 1) (nr q 0) (nr q 1) < 0) = kLt r q := by
  rw [Bool.eq_iff_iff, decide_eq_true_eq, kLt_iff]
  have := cmpP_cases (nr r 0) (nr r 1) (nr q 0) (nr q 1)
  omega

theorem cmp_gt (r q : List Cell) : decide (cmpP (nr r 0) (nr r 1) (nr q 0) (nr q 1) > 0) = kLt q r := by
  rw [Bool.eq_iff_iff, decide_eq_true_eq, kLt_iff]
  have := cmpP_cases (nr r 0) (nr r 1) (nr q 0) (nr q 1)
  omega

theorem blt_mk {a b : Nat} (h : a < b) : Nat.blt a b = true := by
  rw [Nat.blt_eq]
  exact h

theorem len_snoc (v : List (List Cell)) (x : List Cell) : (v ++ [x]).length = v.length + [x].length := by simp

theorem isNilL_pos {l : List (List Cell)} (h : 0 < l.length) : isNilL l = false := by
  cases l with
  | nil => simp at h
  | cons _ _ => rfl

theorem okCh_of {c : List (List Cell)} (h : okCh c = true) : 0 < c.length ∧ c.length ≤ 1000 := by
  simpa [okCh] using h

theorem okLn_of {c : List (List Cell)} (h : okLn c = true) : c.length ≤ 1000 := by simpa [okLn] using h

theorem okLn_mk {c : List (List Cell)} (h : c.length ≤ 1000) : okLn c = true := by simpa [okLn] using h

theorem okSrt_of {c : List (List Cell)} (h : okSrt c = true) : c.length ≤ 1000 ∧ Asc c := by
  unfold okSrt at h
  simp only [Bool.and_eq_true] at h
  exact ⟨okLn_of h.1, ascB_of h.2⟩

theorem okVec_of {c : List (List Cell)} (h : okVec c = true) : c.length ≤ 1000 ∧ AscV c := by
  unfold okVec at h
  simp only [Bool.and_eq_true] at h
  exact ⟨okLn_of h.1, of_decide_eq_true h.2⟩

theorem okVec_mk {c : List (List Cell)} (h : c.length ≤ 1000) (h2 : AscV c) : okVec c = true := by
  unfold okVec
  simp only [Bool.and_eq_true]
  exact ⟨okLn_mk h, decide_eq_true h2⟩

theorem okSrt_mk {c : List (List Cell)} (h : c.length ≤ 1000) (h2 : Asc c) : okSrt c = true := by
  unfold okSrt
  simp only [Bool.and_eq_true]
  exact ⟨okLn_mk h, ascB_mk h2⟩

theorem okCf_of {c : List (List Cell)} (h : okCf c = true) : c.length ≤ 1000 ∧ c.all isPR = true := by
  unfold okCf at h
  simp only [Bool.and_eq_true] at h
  exact ⟨okLn_of h.1, h.2⟩

theorem okCl_of {c : List (List Cell)} (h : okCl c = true) : c.length ≤ 1000 ∧ c.all isPR = true ∧ ∀ r ∈ c, okCh (nl r 2) = true := by
  unfold okCl at h
  simp only [Bool.and_eq_true] at h
  exact ⟨(okCf_of h.1).1, (okCf_of h.1).2, fun r hr => List.all_eq_true.1 h.2 r hr⟩

theorem isPR_eq {r : List Cell} (h : isPR r = true) : [Cell.int .i64 (nr r 0), Cell.int .i64 (nr r 1), Cell.slice 50 (nl r 2)] = r := by
  unfold isPR at h
  split at h
  · have := Nat.eq_of_beq_eq_true h
    subst this
    rfl
  · cases h

theorem rowAt_mem {l : List (List Cell)} {i : Nat} (h : i < l.length) : Abs.rowAt l i ∈ l := by
  rw [rowAt_eq h]
  exact List.getElem_mem h

theorem pr_at {c : List (List Cell)} (h : c.all isPR = true) {i : Nat} (hi : i < c.length) : [Cell.int .i64 (nr (Abs.rowAt c i) 0), Cell.int .i64 (nr (Abs.rowAt c i) 1), Cell.slice 50 (nl (Abs.rowAt c i) 2)] = Abs.rowAt c i :=
  isPR_eq (List.all_eq_true.1 h _ (rowAt_mem hi))

theorem k86 (c : List (List Cell)) (h : okCh c = true) : runF E (callOf L50) 1 86 [.one (.sl false 50 c)] [] = some ([.one (.sl true 50 c)], []) := by
  have := okCh_of h
  rw [e86]
  exact cf (isNilL_pos (by omega)) (ct (fits_of (by simp; omega)) rfl)

theorem k65 (a n : Int) (c : List (List Cell)) (h : okCh c = true) : runF E (callOf L86) 1 65 [.agg [.int .i64 a, .int .i64 n, .sl false 50 c]] [] = some ([.agg [.int .i64 a, .int .i64 n, .sl false 50 c]], []) := by
  rw [e65]
  exact ct h rfl

theorem mid_eq {i j : Nat} (h : i + j < 4611686018427387904) : IntKind.wrap .i64 (shrI .u64 (IntKind.wrap .u64 (IntKind.wrap .i64 ((i : Int) + (j : Int)))) 1) = (((i + j) / 2 : Nat) : Int) := by
  rw [wrap64 (n := (i : Int) + (j : Int)) (by omega) (by omega), wrapu (by omega) (by omega)]
  have e : shrI .u64 ((i : Int) + (j : Int)) 1 = (((i + j) / 2 : Nat) : Int) := by
    unfold shrI
    have e1 : min (Int.toNat 1) IntKind.u64.bits = 1 := by decide
    rw [e1, Int.fdiv_eq_ediv_of_nonneg _ (by decide)]
    omega
  rw [e, wrap64 (by omega) (by omega)]

theorem l83 (c : List (List Cell)) (a n : Int) (p : List (List Cell)) (hc : c.length ≤ 1000) (ha : Asc c) : ∀ (d i j : Nat), j - i ≤ d → i ≤ lowK c (prow a n p) → lowK c (prow a n p) ≤ j → j ≤ c.length →
    ∃ m, goF E (callOf L63) F83 0 m P83_0 (M83_0 c c.length i j a n p) = some ([.one (.int .i64 (lowK c (prow a n p) : Int)), .one (.bool (hasK c (prow a n p)))], []) := by
  intro d
  induction d with
  | zero =>
    intro i j hd h1 h2 h3
    have hi : i = lowK c (prow a n p) := by omega
    subst hi
    refine ⟨1, ?_⟩
    rw [e83_0, hasK_low ha]
    refine cf (decide_eq_false (by omega)) ?_
    by_cases hl : lowK c (prow a n p) < c.length
    · refine ct (decide_eq_true (by omega)) (ct (inB_nat' hl) ?_)
      rw [Int.toNat_natCast, decide_eq_true hl, Bool.true_and, ← cmp_eq]
      rfl
    · rw [decide_eq_false hl, Bool.false_and]
      exact cf (decide_eq_false (by omega)) rfl
  | succ d ih =>
    intro i j hd h1 h2 h3
    by_cases hij : i < j
    · have hlt : (i + j) / 2 < c.length := by omega
      have hcmp := cmp_lt (Abs.rowAt c ((i + j) / 2)) (prow a n p)
      by_cases hk : kLt (Abs.rowAt c ((i + j) / 2)) (prow a n p) = true
      · have hlo : (i + j) / 2 < lowK c (prow a n p) := by
          refine Nat.lt_of_not_le fun hle => ?_
          have := lowK_ge ha hlt hle
          rw [hk] at this
          cases this
        obtain ⟨m, hm⟩ := ih ((i + j) / 2 + 1) j (by omega) (by omega) h2 h3
        refine ⟨m + 1, ?_⟩
        rw [e83_0, mid_eq (by omega), Int.toNat_natCast]
        refine ct (decide_eq_true (by omega)) (ct (inB_nat' hlt) (ct (hcmp.trans hk) ?_))
        rw [nat_wrap (n := c.length) hlt (by omega)]
        exact hm
      · have hlo : lowK c (prow a n p) ≤ (i + j) / 2 := by
          refine Nat.le_of_not_lt fun h => hk (lowK_lt h)
        obtain ⟨m, hm⟩ := ih i ((i + j) / 2) (by omega) h1 hlo (by omega)
        refine ⟨m + 1, ?_⟩
        rw [e83_0, mid_eq (by omega), Int.toNat_natCast]
        exact ct (decide_eq_true (by omega)) (ct (inB_nat' hlt) (cf (hcmp.trans (by simpa using hk)) hm))
    · exact ih i j (by omega) h1 h2 h3

theorem k83 (c : List (List Cell)) (a n : Int) (p : List (List Cell)) (h : okSrt c = true) : ∃ m, runF E (callOf L63) m 83 [.one (.sl false 53 c), .agg [.int .i64 a, .int .i64 n, .sl false 50 p], .one (.fn 54 [])] [] = some ([.one (.int .i64 (lowK c (prow a n p) : Int)), .one (.bool (hasK c (prow a n p)))], []) := by
  obtain ⟨h1, h2⟩ := okSrt_of h
  obtain ⟨m, hm⟩ := l83 c a n p h1 h2 c.length 0 c.length (by omega) (by omega) (lowK_le _ _) (by omega)
  exact ⟨m + 1, by rw [e83]; exact hm⟩

theorem k61 (c : List (List Cell)) (a n : Int) (p : List (List Cell)) (h : okSrt c = true) : runF E (callOf L83) 1 61 [.one (.sl false 53 c), .agg [.int .i64 a, .int .i64 n, .sl false 50 p]] [] = some ([.one (.bool (hasK c (prow a n p)))], []) := by
  rw [e61]
  exact ct h rfl

theorem hasK_prow (c : List (List Cell)) (r : List Cell) (p : List (List Cell)) : hasK c (prow (nr r 0) (nr r 1) p) = hasK c r := rfl

theorem l38 (c d : List (List Cell)) (hs : okSrt c = true) (hd : d.length ≤ 1000) : ∀ (e i : Nat), i + e = d.length →
    ∃ m, goF E (callOf L61) F38 0 m P38_0 (M38_0 c d d.length i) = some ([.one (.bool (contK c (d.drop i)))], [])
  | 0, i, hi => by
    refine ⟨1, ?_⟩
    rw [e38_0]
    have : d.drop i = [] := List.drop_eq_nil_of_le (by omega)
    rw [this]
    exact cf (decide_eq_false (by omega)) rfl
  | e + 1, i, hi => by
    have hi' : i < d.length := by omega
    obtain ⟨m, hm⟩ := l38 c d hs hd e (i + 1) (by omega)
    refine ⟨m + 1, ?_⟩
    rw [e38_0, Int.toNat_natCast, drop_cons d i hi', hasK_prow]
    refine ct (decide_eq_true (by omega)) (ct (inB_nat' hi') (ct hs ?_))
    unfold contK at hm ⊢
    rw [List.all_cons, nat_wrap (n := d.length) hi' (by omega), hm]
    cases hasK c (Abs.rowAt d i) <;> rfl

theorem k38 (c d : List (List Cell)) (h : (okSrt c && okLn d) = true) : ∃ m, runF E (callOf L61) m 38 [.one (.sl false 53 c), .one (.sl false 53 d)] [] = some ([.one (.bool (contK c d))], []) := by
  simp only [Bool.and_eq_true] at h
  obtain ⟨m, hm⟩ := l38 c d h.1 (okLn_of h.2) d.length 0 (by omega)
  exact ⟨m + 1, by rw [e38]; exact hm⟩

theorem k35 (c d : List (List Cell)) (h : (okSrt c && okSrt d) = true) : runF E (callOf L38) 1 35 [.one (.sl false 53 c), .one (.sl false 53 d)] [] = some ([.one (.bool (contK c d && contK d c))], []) := by
  simp only [Bool.and_eq_true] at h
  have h1 : okLn c = true := okLn_mk (okSrt_of h.1).1
  have h2 : okLn d = true := okLn_mk (okSrt_of h.2).1
  rw [e35, h.1, h.2, h1, h2]
  cases contK c d <;> rfl

theorem cmpI_lt (u a : Int) : decide (cmpI u a < 0) = decide (u < a) := by
  unfold cmpI
  rw [Bool.eq_iff_iff, decide_eq_true_eq, decide_eq_true_eq]
  (repeat' split) <;> omega

theorem cmpI_eq (u a : Int) : (cmpI u a == 0) = decide (u = a) := by
  unfold cmpI
  rw [Bool.eq_iff_iff, beq_iff_eq, decide_eq_true_eq]
  (repeat' split) <;> omega

/-- entries that have been counted -/
def CntOk (v : List (List Cell)) (k : Nat) : Prop := ∀ e ∈ v, isEn e = true ∧ 0 ≤ nr e 1 ∧ nr e 1 ≤ k

theorem cnt_mono {v : List (List Cell)} {k j : Nat} (h : CntOk v k) (hj : k ≤ j) : CntOk v j := fun e he => by
  have := h e he
  exact ⟨this.1, this.2.1, by omega⟩

theorem isEn_eq {r : List Cell} (h : isEn r = true) : r = ent (nr r 0) (nr r 1) := by
  unfold isEn at h
  split at h
  · rfl
  · cases h

theorem set_last {v : List (List Cell)} (h : 0 < v.length) (x : List Cell) : v.set (v.length - 1) x = v.take (v.length - 1) ++ [x] := by
  rw [List.set_eq_take_append_cons_drop, if_pos (by omega)]
  rw [show v.length - 1 + 1 = v.length by omega, List.drop_length]

theorem vstep_cnt {v : List (List Cell)} {k : Nat} (h : CntOk v k) (a : Int) : CntOk (vstep v a) (k + 1) := by
  unfold vstep
  split
  · rename_i hh
    intro e he
    rcases List.mem_append.1 he with he | he
    · exact cnt_mono h (Nat.le_succ k) e (List.mem_of_mem_take he)
    · rw [List.mem_singleton] at he
      subst he
      have := h _ (rowAt_mem (l := v) (i := v.length - 1) (by omega))
      refine ⟨rfl, ?_, ?_⟩
      · show 0 ≤ nr (Abs.rowAt v (v.length - 1)) 1 + 1
        omega
      · show nr (Abs.rowAt v (v.length - 1)) 1 + 1 ≤ _
        omega
  · intro e he
    rcases List.mem_append.1 he with he | he
    · exact cnt_mono h (Nat.le_succ k) e he
    · rw [List.mem_singleton] at he
      subst he
      have e1 : nr (ent a 1) 1 = 1 := rfl
      refine ⟨rfl, ?_, ?_⟩ <;> rw [e1] <;> omega

theorem vstep_len (v : List (List Cell)) (a : Int) : (vstep v a).length ≤ v.length + 1 := by
  unfold vstep
  split <;> simp <;> omega

theorem setCells_en {e : List Cell} (h : isEn e = true) (x : Int) : setCells e 1 [Cell.int .i64 x] = ent (nr e 0) x := by
  unfold isEn at h
  split at h
  · rfl
  · cases h

theorem l62 (c : List (List Cell)) (hc : c.length ≤ 1000) (hp : c.all isPR = true) (hn : ∀ r ∈ c, okCh (nl r 2) = true) : ∀ (d i : Nat) (v : List (List Cell)), i + d = c.length → v.length ≤ i →
    ∃ m, goF E (callOf L35) F62 0 m P62_0 (M62_0 v.length c c.length i v) = some ([.one (.msl 53 0 (v ++ c.drop i).length)], [.arr 53 (v ++ c.drop i)])
  | 0, i, v, hi, hv => by
    refine ⟨1, ?_⟩
    rw [e62_0]
    have : c.drop i = [] := List.drop_eq_nil_of_le (by omega)
    rw [this, List.append_nil]
    exact cf (decide_eq_false (by omega)) rfl
  | d + 1, i, v, hi, hv => by
    have hi' : i < c.length := by omega
    obtain ⟨m, hm⟩ := l62 c hc hp hn d (i + 1) (v ++ [Abs.rowAt c i]) (by omega) (by simp; omega)
    refine ⟨m + 1, ?_⟩
    rw [e62_0, Int.toNat_natCast, nat_wrap (n := c.length) hi' (by omega), pr_at hp hi', drop_cons c i hi']
    rw [List.append_assoc, len_snoc] at hm
    exact ct (decide_eq_true (by omega)) (ct (inB_nat' hi') (ct rfl (ct (hn _ (rowAt_mem hi')) (ct (Nat.beq_refl _) (ct (fits_of (by simp; omega)) hm)))))

theorem k62 (c : List (List Cell)) (h : okCl c = true) : ∃ m, runF E (callOf L35) m 62 [.one (.sl false 53 c), .one (.fn 63 [])] [] = some ([.one (.msl 53 0 c.length)], [.arr 53 c]) := by
  obtain ⟨h1, h2, h3⟩ := okCl_of h
  obtain ⟨m, hm⟩ := l62 c h1 h2 h3 c.length 0 [] (by omega) (by simp)
  exact ⟨m + 1, by rw [e62]; exact hm⟩

theorem insK_len : ∀ (l : List (List Cell)) (p : List Cell), (insK l p).length ≤ l.length + 1
  | [], _ => by simp [insK]
  | q :: l, p => by
    unfold insK
    have := insK_len l p
    split
    · simp
    · split
      · simp
      · simp; omega

theorem k64 (n : Nat) (k : Int) (x y : List (List Cell)) (h : okIns n k x y = true) : runF E (callOf L62) 1 64 [.one (.msl 53 0 n), .one (.int .i64 k), .one (.sl false 53 y)] [.arr 53 x] = some ([.one (.msl 53 1 (x.length + y.length))], [.dead, .arr 53 (insL x y (Int.toNat k))]) :=
  (ct rfl (ct h rfl) : cond (Nat.beq 45 45 && (Nat.beq 45 45 && Nat.beq 45 45)) (cond (okIns n k x y) (some ([AV.one (.msl 53 1 (x.length + y.length))], [Block.dead, .arr 53 (insL x y (Int.toNat k))])) none) none = _)

theorem in42 (d out : List (List Cell)) (a n : Int) (c : List (List Cell)) (hc : okCh c = true) (ho : out.length ≤ 100000) (i : Nat) (hi : i < 1000) (R : List AV × List Block)
    (hR : ∃ m, goF E (callOf L64) F42 0 m P42_0 (M42_0 (insK out (prow a n c)).length d d.length ((i + 1 : Nat) : Int) (insK out (prow a n c))) = some R) :
    ∀ (e k : Nat), k + e = out.length → (∀ j, j < k → kLt (Abs.rowAt out j) (prow a n c) = true) →
    ∃ m, goF E (callOf L64) F42 0 m P42_1 (M42_1 out.length d d.length i out.length out.length k out a n c) = some R := by
  obtain ⟨m0, hm0⟩ := hR
  have hpre : ∀ k, k ≤ out.length → (∀ j, j < k → kLt (Abs.rowAt out j) (prow a n c) = true) → ∀ q ∈ out.take k, kLt q (prow a n c) = true := fun k hk h q hq => by
    obtain ⟨j, hj, rfl⟩ := List.getElem_of_mem hq
    have hj' : j < k := by simp at hj; omega
    have := h j hj'
    rw [rowAt_eq (by omega)] at this
    simpa using this
  intro e
  induction e with
  | zero =>
    intro k hk h
    have hins : insK out (prow a n c) = out ++ [prow a n c] := insK_end fun q hq => by
      have := hpre k (by omega) h q
      rw [List.take_of_length_le (by omega)] at this
      exact this hq
    refine ⟨m0 + 1, ?_⟩
    rw [e42_1]
    refine cf (decide_eq_false (by omega)) (ct hc (ct (Nat.beq_refl _) (ct (fits_of (by simp; omega)) ?_)))
    rw [nat_wrap (n := 1000) hi (by omega), ← hm0, hins, List.length_append]
    rfl
  | succ e ih =>
    intro k hk h
    have hk' : k < out.length := by omega
    have hsplit : out = out.take k ++ (Abs.rowAt out k :: out.drop (k + 1)) := by rw [← drop_cons out k hk', List.take_append_drop]
    have happ : insK out (prow a n c) = out.take k ++ insK (Abs.rowAt out k :: out.drop (k + 1)) (prow a n c) := by
      conv => lhs; rw [hsplit]
      exact insK_app (hpre k (by omega) h)
    have c1 := cmp_eq (prow a n c) (Abs.rowAt out k)
    have c2 := cmp_lt (prow a n c) (Abs.rowAt out k)
    by_cases h1 : kEq (prow a n c) (Abs.rowAt out k) = true
    · refine ⟨m0 + 1, ?_⟩
      rw [e42_1, Int.toNat_natCast]
      refine ct (decide_eq_true (by omega)) (ct (inB_nat' hk') (ct (blt_mk hk') (ct (c1.trans h1) ?_)))
      rw [nat_wrap (n := 1000) hi (by omega), ← hm0, happ, insK, if_pos h1, ← hsplit]
    · have h1' : kEq (prow a n c) (Abs.rowAt out k) = false := by simpa using h1
      by_cases h2 : kLt (prow a n c) (Abs.rowAt out k) = true
      · refine ⟨m0 + 1, ?_⟩
        rw [e42_1, Int.toNat_natCast]
        have hok : okIns out.length k out [[Cell.int .i64 a, Cell.int .i64 n, Cell.slice 50 c]] = true := by
          unfold okIns
          simp only [Bool.and_eq_true, decide_eq_true_eq]
          exact ⟨Nat.beq_refl _, by omega, by omega, by simp, fits_of (by simp; omega)⟩
        refine ct (decide_eq_true (by omega)) (ct (inB_nat' hk') (ct (blt_mk hk') (cf (c1.trans h1') (ct (c2.trans h2) (ct hc (ct hok ?_))))))
        have hins : insK out (prow a n c) = insL out [[Cell.int .i64 a, Cell.int .i64 n, Cell.slice 50 c]] k := by
          rw [happ, insK, if_neg h1, if_pos h2, ← drop_cons out k hk']
          simp [insL, prow]
        have hlen : (insL out [[Cell.int .i64 a, Cell.int .i64 n, Cell.slice 50 c]] k).length = out.length + [[Cell.int .i64 a, Cell.int .i64 n, Cell.slice 50 c]].length := by
          simp [insL]; omega
        rw [nat_wrap (n := 1000) hi (by omega), ← hm0, hins, hlen]
      · have h2' : kLt (prow a n c) (Abs.rowAt out k) = false := by simpa using h2
        obtain ⟨m, hm⟩ := ih (k + 1) (by omega) fun j hj => by
          by_cases hjk : j = k
          · subst hjk
            rw [kEq_false] at h1'
            rw [kLt_false] at h2'
            rw [kLt_iff]
            omega
          · exact h j (by omega)
        refine ⟨m + 1, ?_⟩
        rw [e42_1, Int.toNat_natCast]
        refine ct (decide_eq_true (by omega)) (ct (inB_nat' hk') (ct (blt_mk hk') (cf (c1.trans h1') (cf (c2.trans h2') ?_))))
        rw [nat_wrap (n := out.length) hk' (by omega)]
        exact hm

theorem l42 (d : List (List Cell)) (hd : d.length ≤ 1000) (hp : d.all isPR = true) (hn : ∀ r ∈ d, okCh (nl r 2) = true) : ∀ (e i : Nat) (out : List (List Cell)), i + e = d.length → out.length ≤ 1000 + i →
    ∃ m, goF E (callOf L64) F42 0 m P42_0 (M42_0 out.length d d.length i out) = some ([.one (.sl false 53 (uniK out (d.drop i)))], [])
  | 0, i, out, hi, ho => by
    refine ⟨1, ?_⟩
    rw [e42_0]
    have : d.drop i = [] := List.drop_eq_nil_of_le (by omega)
    rw [this]
    exact cf (decide_eq_false (by omega)) (ct (Nat.beq_refl _) rfl)
  | e + 1, i, out, hi, ho => by
    have hi' : i < d.length := by omega
    have hl := insK_len out (Abs.rowAt d i)
    have hR := l42 d hd hp hn e (i + 1) (insK out (Abs.rowAt d i)) (by omega) (by omega)
    have e1 : uniK out (d.drop i) = uniK (insK out (Abs.rowAt d i)) (d.drop (i + 1)) := by rw [drop_cons d i hi', uniK_cons]
    have e2 : prow (nr (Abs.rowAt d i) 0) (nr (Abs.rowAt d i) 1) (nl (Abs.rowAt d i) 2) = Abs.rowAt d i := pr_at hp hi'
    rw [← e1, ← e2] at hR
    obtain ⟨m, hm⟩ := in42 d out _ _ _ (hn _ (rowAt_mem hi')) (by omega) i (by omega) _ hR out.length 0 (by omega) (fun j hj => by omega)
    refine ⟨m + 1, ?_⟩
    rw [e42_0, Int.toNat_natCast]
    exact ct (decide_eq_true (by omega)) (ct (inB_nat' hi') hm)

theorem k42 (c d : List (List Cell)) (h : (okCl c && okCl d) = true) : ∃ m, runF E (callOf L64) m 42 [.one (.sl false 53 c), .one (.sl false 53 d)] [] = some ([.one (.sl false 53 (uniK c d))], []) := by
  simp only [Bool.and_eq_true] at h
  obtain ⟨h1, _, _⟩ := okCl_of h.1
  obtain ⟨h4, h5, h6⟩ := okCl_of h.2
  obtain ⟨m, hm⟩ := l42 d h4 h5 h6 d.length 0 c (by omega) (by omega)
  exact ⟨m + 1, by rw [e42]; exact ct h.1 hm⟩

theorem vecF_inv : ∀ (c v : List (List Cell)) (k : Nat), CntOk v k → CntOk (vecF v c) (k + c.length) ∧ (vecF v c).length ≤ v.length + c.length
  | [], v, k, h => ⟨h, Nat.le_refl _⟩
  | r :: c, v, k, h => by
    have := vecF_inv c (vstep v (nr r 0)) (k + 1) (vstep_cnt h _)
    have hl := vstep_len v (nr r 0)
    show CntOk (vecF (vstep v (nr r 0)) c) _ ∧ _
    simp only [List.length_cons]
    refine ⟨cnt_mono this.1 (by omega), ?_⟩
    show (vecF (vstep v (nr r 0)) c).length ≤ _
    omega

theorem vecK_cnt (c : List (List Cell)) : CntOk (vecK c) c.length ∧ (vecK c).length ≤ c.length := by
  have := vecF_inv c [] 0 (fun e he => by cases he)
  simpa [vecK] using this

theorem cntV_bound {v : List (List Cell)} {k : Nat} (h : CntOk v k) (a : Int) : 0 ≤ cntV v a ∧ cntV v a ≤ k := by
  induction v with
  | nil => simp [cntV]
  | cons e v ih =>
    unfold cntV
    split
    · exact (h e List.mem_cons_self).2
    · exact ih fun x hx => h x (List.mem_cons_of_mem _ hx)

end Go.Proofs.Ytdgijohgncchiaa
