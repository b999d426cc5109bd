/-
  The contracts that other seats share.
-/
import Derived.Test.YtejimgikldiajaaEq1
namespace Go.Proofs.Ytejimgikldiajaa
open Go.Abs

theorem nat_wrap {i n : Nat} (h : i < n) (hn : n < 9223372036854775808) : IntKind.i64.wrap ((i : Int) + 1) = ((i + 1 : Nat) : Int) := by
  rw [wrap64 (by omega) (by omega)]
  omega

theorem l34 (c d : List (List Cell)) (a n b k : Int) (hc : c.length < 9223372036854775808) (hd : c.length = d.length) : ∀ (e i : Nat), i + e = c.length →
    ∃ m, goF E (callOf L) F34 0 m P34_0 (M34_0 i a n c b k d) = some ([.one (.bool (eqChs (c.drop i) (d.drop i)))], [])
  | 0, i, hi => by
    refine ⟨1, ?_⟩
    rw [e34_0]
    refine cf (by simp; omega) ?_
    have : c.drop i = [] := List.drop_eq_nil_of_le (by omega)
    rw [this, eqChs]
  | e + 1, i, hi => by
    obtain ⟨m, hm⟩ := l34 c d a n b k hc hd e (i + 1) (by omega)
    refine ⟨m + 1, ?_⟩
    rw [e34_0]
    refine ct (by simp; omega) (ct (inB_nat' (by omega)) (ct (inB_nat' (by omega)) ?_))
    rw [drop_cons c i (by omega), eqChs, Int.toNat_natCast, nat_wrap (n := c.length) (by omega) hc, hm, rowAt_drop, List.drop_drop]
    have hE : (((nr (Abs.rowAt c i) 0) == (nr (Abs.rowAt d i) 0)) && (((nr (Abs.rowAt c i) 1) == (nr (Abs.rowAt d i) 1)) && (((nr (Abs.rowAt c i) 2) == (nr (Abs.rowAt d i) 2)) && (((nr (Abs.rowAt c i) 3) == (nr (Abs.rowAt d i) 3)) && (((nr (Abs.rowAt c i) 4) == (nr (Abs.rowAt d i) 4)) && (((nr (Abs.rowAt c i) 5) == (nr (Abs.rowAt d i) 5)) && (((nr (Abs.rowAt c i) 6) == (nr (Abs.rowAt d i) 6)) && true))))))) = eqChR (Abs.rowAt c i) (Abs.rowAt d i) := by
      simp only [eqChR, eqCh, Bool.and_assoc, Bool.and_true]
    refine Eq.trans (congrArg (fun b => cond (!b) (some ([AV.one (AC.bool false)], ([] : List Block))) _) hE) ?_
    rw [Nat.add_zero]
    generalize eqChR (Abs.rowAt c i) (Abs.rowAt d i) = b1
    cases b1 <;> rfl

theorem k34 (a n : Int) (c : List (List Cell)) (b k : Int) (d : List (List Cell)) (hc : c.length < 9223372036854775808) : ∃ m, runF E (callOf L) m 34 [.agg [.int .i64 a, .int .i64 n, .sl false 79 c], .agg [.int .i64 b, .int .i64 k, .sl false 79 d]] [] =
    some ([.one (.bool (eqP a n c b k d))], []) := by
  by_cases hd : c.length = d.length
  · obtain ⟨m, hm⟩ := l34 c d a n b k hc hd c.length 0 (by omega)
    refine ⟨m + 1, ?_⟩
    rw [e34, show (0 : Int) = ((0 : Nat) : Int) from rfl, hm]
    unfold eqP bne
    rw [List.drop_zero, List.drop_zero]
    generalize (a == b) = b1
    generalize (n == k) = b2
    generalize eqChs c d = b3
    rw [show ((c.length : Int) == (d.length : Int)) = true by simp; omega, decide_eq_true hd]
    cases b1 <;> cases b2 <;> cases b3 <;> rfl
  · refine ⟨1, ?_⟩
    rw [e34]
    unfold eqP bne
    generalize (a == b) = b1
    generalize (n == k) = b2
    rw [show ((c.length : Int) == (d.length : Int)) = false by simp; omega, decide_eq_false hd]
    cases b1 <;> cases b2 <;> rfl

theorem eqChs_refl : ∀ c : List (List Cell), eqChs c c = true
  | [] => rfl
  | r :: c => by
    have : eqChR r r = true := by simp [eqChR, eqCh]
    rw [eqChs]
    show (eqChR r r && eqChs c c) = true
    rw [this, eqChs_refl c]
    rfl

theorem eqP_refl (a n : Int) (c : List (List Cell)) : eqP a n c a n c = true := by
  simp [eqP, eqChs_refl]

theorem okRows_of {c : List (List Cell)} (h : okRows c = true) : c.length ≤ 1000 ∧ shortRows c = true := by
  unfold okRows at h
  simp only [Bool.and_eq_true, decide_eq_true_eq] at h
  exact h

theorem okRows_mk {c : List (List Cell)} (h1 : c.length ≤ 1000) (h2 : shortRows c = true) : okRows c = true := by
  unfold okRows
  simp only [Bool.and_eq_true, decide_eq_true_eq]
  exact ⟨h1, h2⟩

theorem all_at {p : List Cell → Bool} {l : List (List Cell)} (h : l.all p = true) {i : Nat} (hi : i < l.length) : p (Abs.rowAt l i) = true := by
  rw [rowAt_eq hi]
  exact List.all_eq_true.1 h _ (List.getElem_mem hi)

theorem short_at {c : List (List Cell)} (h : shortRows c = true) {i : Nat} (hi : i < c.length) : (nl (Abs.rowAt c i) 2).length < 9223372036854775808 := by
  have := all_at h hi
  unfold shortRow at this
  simpa using this

theorem l17 (c d : List (List Cell)) (hc : c.length ≤ 1000) (hs : shortRows c = true) (hd : c.length = d.length) : ∀ (e i : Nat), i + e = c.length →
    ∃ m, goF E (callOf L34) F17 0 m P17_0 (M17_0 c d i) = some ([.one (.bool (eqCfgF (c.drop i) (d.drop i)))], [])
  | 0, i, hi => by
    refine ⟨1, ?_⟩
    rw [e17_0]
    have : c.drop i = [] := List.drop_eq_nil_of_le (by omega)
    rw [this, eqCfgF]
    exact cf (decide_eq_false (by omega)) rfl
  | e + 1, i, hi => by
    have hi' : i < c.length := by omega
    obtain ⟨m, hm⟩ := l17 c d hc hs hd e (i + 1) (by omega)
    refine ⟨m + 1, ?_⟩
    rw [e17_0]
    rw [drop_cons c i hi', eqCfgF, Int.toNat_natCast, nat_wrap (n := c.length) hi' (by omega), hm, rowAt_drop, List.drop_drop, Nat.add_zero]
    refine ct (decide_eq_true (by omega)) (ct (inB_nat' hi') (ct (inB_nat' (by omega)) (ct (decide_eq_true (short_at hs hi')) ?_)))
    show cond (!(eqPR (Abs.rowAt c i) (Abs.rowAt d i))) _ _ = _
    generalize eqPR (Abs.rowAt c i) (Abs.rowAt d i) = b1
    cases b1 <;> rfl

theorem k17 (c d : List (List Cell)) (h : okRows c = true) : ∃ m, runF E (callOf L34) m 17 [.one (.sl false 74 c), .one (.sl false 74 d)] [] = some ([.one (.bool (eqCfg c d))], []) := by
  obtain ⟨h1, h2⟩ := okRows_of h
  unfold eqCfg
  by_cases hd : c.length = d.length
  · obtain ⟨m, hm⟩ := l17 c d h1 h2 hd c.length 0 (by omega)
    refine ⟨m + 1, ?_⟩
    rw [e17, show (0 : Int) = ((0 : Nat) : Int) from rfl, hm, decide_eq_true hd]
    exact cf (bne_eq_false_iff_eq.2 (by omega)) rfl
  · refine ⟨1, ?_⟩
    rw [e17, decide_eq_false hd]
    exact ct (bne_iff_ne.2 (by omega)) rfl

theorem eqCfgF_refl : ∀ c : List (List Cell), eqCfgF c c = true
  | [] => rfl
  | r :: c => by
    rw [eqCfgF]
    show (eqPR r r && eqCfgF c c) = true
    rw [eqCfgF_refl c]
    simp [eqPR, eqP_refl]

theorem eqCfg_refl (c : List (List Cell)) : eqCfg c c = true := by
  simp [eqCfg, eqCfgF_refl]

theorem okLn_of {c : List (List Cell)} (h : okLn c = true) : c.length ≤ 1000 := by simpa [okLn] using h

theorem okLn_mk {c : List (List Cell)} (h : c.length ≤ 1000) : okLn c = true := by simpa [okLn] using h

theorem l19 (v w : List (List Cell)) (hv : v.length ≤ 1000) (hl : v.length = w.length) : ∀ (d i : Nat), i + d = v.length →
    ∃ m, goF E (callOf L17) F19 0 m P19_0 (M19_0 v w i) = some ([.one (.bool (eqVF (v.drop i) (w.drop i)))], [])
  | 0, i, hi => by
    refine ⟨1, ?_⟩
    have : v.drop i = [] := List.drop_eq_nil_of_le (by omega)
    rw [e19_0, this]
    exact cf (decide_eq_false (by omega)) rfl
  | d + 1, i, hi => by
    have hi' : i < v.length := by omega
    obtain ⟨m, hm⟩ := l19 v w hv hl d (i + 1) (by omega)
    refine ⟨m + 1, ?_⟩
    rw [e19_0, Int.toNat_natCast, drop_cons v i hi', eqVF, nat_wrap (n := v.length) hi' (by omega), hm, rowAt_drop, List.drop_drop, Nat.add_zero]
    refine ct (decide_eq_true (by omega)) (ct (inB_nat' hi') (ct (inB_nat' (by omega)) ?_))
    have e1 : ((nr (Abs.rowAt v i) 0) == (nr (Abs.rowAt w i) 0)) = decide (nr (Abs.rowAt v i) 0 = nr (Abs.rowAt w i) 0) := by rw [Bool.eq_iff_iff, beq_iff_eq, decide_eq_true_eq]
    have e2 : ((nr (Abs.rowAt v i) 1) == (nr (Abs.rowAt w i) 1)) = decide (nr (Abs.rowAt v i) 1 = nr (Abs.rowAt w i) 1) := by rw [Bool.eq_iff_iff, beq_iff_eq, decide_eq_true_eq]
    rw [e1, e2, Bool.and_true]
    cases (decide (nr (Abs.rowAt v i) 0 = nr (Abs.rowAt w i) 0) && decide (nr (Abs.rowAt v i) 1 = nr (Abs.rowAt w i) 1)) <;> rfl

theorem k19 (v w : List (List Cell)) (h : okLn v = true) : ∃ m, runF E (callOf L17) m 19 [.one (.sl false 52 v), .one (.sl false 52 w)] [] = some ([.one (.bool (eqVec v w))], []) := by
  unfold eqVec
  by_cases hl : v.length = w.length
  · obtain ⟨m, hm⟩ := l19 v w (okLn_of h) hl v.length 0 (by omega)
    refine ⟨m + 1, ?_⟩
    rw [e19, decide_eq_true hl]
    exact cf (bne_eq_false_iff_eq.2 (by omega)) hm
  · refine ⟨1, ?_⟩
    rw [e19, decide_eq_false hl]
    exact ct (bne_iff_ne.2 (by omega)) rfl



theorem k92 (s : List UInt8) : runF E (callOf L21) 1 92 [.one (.str s)] [] = some ([.one (.bool s.isEmpty)], []) := by kernel_rfl

theorem l33 (c d : List (List Cell)) (hc : c.length < 9223372036854775808) (hd : c.length = d.length) : ∀ (e i : Nat), i + e = c.length →
    ∃ m, goF E (callOf L19) F33 0 m P33_0 (M33_0 c d c.length i) = some ([.one (.bool (eqEffF (c.drop i) (d.drop i)))], [])
  | 0, i, hi => by
    refine ⟨1, ?_⟩
    rw [e33_0]
    have : c.drop i = [] := List.drop_eq_nil_of_le (by omega)
    rw [this, eqEffF]
    exact cf (decide_eq_false (by omega)) rfl
  | e + 1, i, hi => by
    obtain ⟨m, hm⟩ := l33 c d hc hd e (i + 1) (by omega)
    refine ⟨m + 1, ?_⟩
    rw [e33_0]
    refine ct (decide_eq_true (by omega)) (ct (inB_nat' (by omega)) (ct (inB_nat' (by omega)) ?_))
    rw [drop_cons c i (by omega), eqEffF, Int.toNat_natCast, nat_wrap (n := c.length) (by omega) hc, hm, rowAt_drop, List.drop_drop, Nat.add_zero]
    show cond (!(eqEffR (Abs.rowAt c i) (Abs.rowAt d i))) _ _ = _
    generalize eqEffR (Abs.rowAt c i) (Abs.rowAt d i) = b1
    cases b1 <;> rfl

theorem k33 (c d : List (List Cell)) (hc : c.length < 9223372036854775808) : ∃ m, runF E (callOf L19) m 33 [.one (.sl false 83 c), .one (.sl false 83 d)] [] = some ([.one (.bool (eqEffs c d))], []) := by
  unfold eqEffs
  by_cases hd : c.length = d.length
  · obtain ⟨m, hm⟩ := l33 c d hc hd c.length 0 (by omega)
    refine ⟨m + 1, ?_⟩
    rw [e33, show (0 : Int) = ((0 : Nat) : Int) from rfl, hm, decide_eq_true hd]
    exact cf (bne_eq_false_iff_eq.2 (by omega)) rfl
  · refine ⟨1, ?_⟩
    rw [e33, decide_eq_false hd]
    exact ct (bne_iff_ne.2 (by omega)) rfl

theorem k14 (a n t : Int) (c : List (List Cell)) (b k u : Int) (d : List (List Cell)) (hc : c.length < 9223372036854775808) : runF E (callOf L33) 1 14 [.agg [.int .i64 a, .int .i64 n, .int .i64 t, .sl false 83 c], .agg [.int .i64 b, .int .i64 k, .int .i64 u, .sl false 83 d]] [] = some ([.one (.bool (eqU a n t c b k u d))], []) := by
  rw [e14]
  unfold eqU
  rw [decide_eq_true hc]
  generalize (a == b) = b1
  generalize (n == k) = b2
  generalize (t == u) = b3
  cases b1 <;> cases b2 <;> cases b3 <;> rfl

theorem l35 (c d : List (List Cell)) (a n t b k u : Int) (hc : c.length < 9223372036854775808) (hd : c.length = d.length) : ∀ (e i : Nat), i + e = c.length →
    ∃ m, goF E (callOf L14) F35 0 m P35_0 (M35_0 i a n t c b k u d) = some ([.one (.bool (eqEffF (c.drop i) (d.drop i)))], [])
  | 0, i, hi => by
    refine ⟨1, ?_⟩
    rw [e35_0]
    have : c.drop i = [] := List.drop_eq_nil_of_le (by omega)
    rw [this, eqEffF]
    exact cf (decide_eq_false (by omega)) rfl
  | e + 1, i, hi => by
    obtain ⟨m, hm⟩ := l35 c d a n t b k u hc hd e (i + 1) (by omega)
    refine ⟨m + 1, ?_⟩
    rw [e35_0]
    refine ct (decide_eq_true (by omega)) (ct (inB_nat' (by omega)) (ct (inB_nat' (by omega)) ?_))
    rw [drop_cons c i (by omega), eqEffF, Int.toNat_natCast, nat_wrap (n := c.length) (by omega) hc, hm, rowAt_drop, List.drop_drop, Nat.add_zero]
    show cond (!(eqEffR (Abs.rowAt c i) (Abs.rowAt d i))) _ _ = _
    generalize eqEffR (Abs.rowAt c i) (Abs.rowAt d i) = b1
    cases b1 <;> rfl

theorem k35 (a n t : Int) (c : List (List Cell)) (b k u : Int) (d : List (List Cell)) (hc : c.length < 9223372036854775808) : ∃ m, runF E (callOf L14) m 35 [.agg [.int .i64 a, .int .i64 n, .int .i64 t, .sl false 83 c], .agg [.int .i64 b, .int .i64 k, .int .i64 u, .sl false 83 d]] [] = some ([.one (.bool (eqU a n t c b k u d))], []) := by
  unfold eqU eqEffs
  by_cases hd : c.length = d.length
  · obtain ⟨m, hm⟩ := l35 c d a n t b k u hc hd c.length 0 (by omega)
    refine ⟨m + 1, ?_⟩
    rw [e35, show (0 : Int) = ((0 : Nat) : Int) from rfl, hm, decide_eq_true hd, List.drop_zero, List.drop_zero]
    unfold bne
    rw [show ((c.length : Int) == (d.length : Int)) = true from beq_iff_eq.2 (by omega)]
    generalize (a == b) = b1
    generalize (n == k) = b2
    generalize (t == u) = b3
    cases b1 <;> cases b2 <;> cases b3 <;> rfl
  · refine ⟨1, ?_⟩
    rw [e35, decide_eq_false hd]
    unfold bne
    rw [show ((c.length : Int) == (d.length : Int)) = false from beq_eq_false_iff_ne.2 (by omega)]
    generalize (a == b) = b1
    generalize (n == k) = b2
    generalize (t == u) = b3
    cases b1 <;> cases b2 <;> cases b3 <;> rfl

theorem eqEffF_refl : ∀ c : List (List Cell), eqEffF c c = true
  | [] => rfl
  | r :: c => by
    have : eqEffR r r = true := by simp [eqEffR]
    rw [eqEffF]
    show (eqEffR r r && eqEffF c c) = true
    rw [this, eqEffF_refl c]
    rfl

theorem eqU_refl (a n t : Int) (c : List (List Cell)) : eqU a n t c a n t c = true := by
  simp [eqU, eqEffs, eqEffF_refl]

theorem okRows_ofU {c : List (List Cell)} (h : okRowsU c = true) : c.length ≤ 1000 ∧ shortRowsU c = true := by
  unfold okRowsU at h
  simp only [Bool.and_eq_true, decide_eq_true_eq] at h
  exact h

theorem okRows_mkU {c : List (List Cell)} (h1 : c.length ≤ 1000) (h2 : shortRowsU c = true) : okRowsU c = true := by
  unfold okRowsU
  simp only [Bool.and_eq_true, decide_eq_true_eq]
  exact ⟨h1, h2⟩

theorem short_atU {c : List (List Cell)} (h : shortRowsU c = true) {i : Nat} (hi : i < c.length) : (nl (Abs.rowAt c i) 3).length < 9223372036854775808 := by
  have := all_at h hi
  unfold shortRowU at this
  simpa using this

theorem l18 (c d : List (List Cell)) (hc : c.length ≤ 1000) (hs : shortRowsU c = true) (hd : c.length = d.length) : ∀ (e i : Nat), i + e = c.length →
    ∃ m, goF E (callOf L35) F18 0 m P18_0 (M18_0 c d i) = some ([.one (.bool (eqStF (c.drop i) (d.drop i)))], [])
  | 0, i, hi => by
    refine ⟨1, ?_⟩
    rw [e18_0]
    have : c.drop i = [] := List.drop_eq_nil_of_le (by omega)
    rw [this, eqStF]
    exact cf (decide_eq_false (by omega)) rfl
  | e + 1, i, hi => by
    have hi' : i < c.length := by omega
    obtain ⟨m, hm⟩ := l18 c d hc hs hd e (i + 1) (by omega)
    refine ⟨m + 1, ?_⟩
    rw [e18_0]
    rw [drop_cons c i hi', eqStF, Int.toNat_natCast, nat_wrap (n := c.length) hi' (by omega), hm, rowAt_drop, List.drop_drop, Nat.add_zero]
    refine ct (decide_eq_true (by omega)) (ct (inB_nat' hi') (ct (inB_nat' (by omega)) (ct (decide_eq_true (short_atU hs hi')) ?_)))
    show cond (!(eqUR (Abs.rowAt c i) (Abs.rowAt d i))) _ _ = _
    generalize eqUR (Abs.rowAt c i) (Abs.rowAt d i) = b1
    cases b1 <;> rfl

theorem k18 (c d : List (List Cell)) (h : okRowsU c = true) : ∃ m, runF E (callOf L35) m 18 [.one (.sl false 48 c), .one (.sl false 48 d)] [] = some ([.one (.bool (eqSt c d))], []) := by
  obtain ⟨h1, h2⟩ := okRows_ofU h
  unfold eqSt
  by_cases hd : c.length = d.length
  · obtain ⟨m, hm⟩ := l18 c d h1 h2 hd c.length 0 (by omega)
    refine ⟨m + 1, ?_⟩
    rw [e18, show (0 : Int) = ((0 : Nat) : Int) from rfl, hm, decide_eq_true hd]
    exact cf (bne_eq_false_iff_eq.2 (by omega)) rfl
  · refine ⟨1, ?_⟩
    rw [e18, decide_eq_false hd]
    exact ct (bne_iff_ne.2 (by omega)) rfl

theorem eqStF_refl : ∀ c : List (List Cell), eqStF c c = true
  | [] => rfl
  | r :: c => by
    rw [eqStF]
    show (eqUR r r && eqStF c c) = true
    rw [eqStF_refl c]
    simp [eqUR, eqU_refl]

theorem eqSt_refl (c : List (List Cell)) : eqSt c c = true := by
  simp [eqSt, eqStF_refl]

end Go.Proofs.Ytejimgikldiajaa
