/-
  Merged texts: MsA, MsB, MsC, MsD, MsE, MsF, MsG, MsH, MsI, Aw, ValA, ValB, Val, UsP, Prim, Fn.
-/
import Derived.Test.YtejimgikldiajaaGreatZ5
import Derived.Test.YtejimgikldiajaaGreatProg
import Derived.MapKept
import Derived.ChangeMaps5
import Derived.Carry
import Derived.LoopTactic
import Derived.OwnWalk
import Derived.WalkKit
import Derived.ProofKit
import Derived.Handy
import Derived.LoopN
import Derived.Laws.RangeString

namespace Go.Proofs.YtejimgikldiajaaGreat

open Go.Abs

def msgV (w : Msg) : AV := .agg [.int .i64 w.k, .int .i64 w.f, .int .i64 w.t, .int .i64 w.p, .int .i64 w.n, .int .i64 w.r, .int .i64 w.o, .sl false 93 w.cf, .sl false 93 w.ct, .sl false 93 w.bf, .sl false 93 w.bt, .bool w.h, .sl false 93 w.ef, .sl false 93 w.et, .sl false 93 w.g, .sl false 96 w.u, .sl false 103 w.v, .bool w.m]

def okW (w : Msg) : Bool := okM w.cf w.ct w.bf w.bt w.ef w.et w.g w.u w.v

theorem okW_of {cf ct bf bt ef et g u v : List (List Cell)} (h : okM cf ct bf bt ef et g u v = true) :
    okRows cf = true ∧ okRows ct = true ∧ okRows bf = true ∧ okRows bt = true ∧ okRows ef = true ∧ okRows et = true ∧ okRows g = true ∧ okRowsU u = true ∧ okLn v = true := by
  unfold okM at h
  simp only [Bool.and_eq_true] at h
  obtain ⟨⟨h1, h2⟩, ⟨h3, h4⟩, ⟨h5, h6⟩, h7, h8, h9⟩ := h
  exact ⟨h1, h2, h3, h4, h5, h6, h7, h8, h9⟩

theorem and2 {a b : Bool} (h1 : a = true) (h2 : b = true) : (a && b) = true := by rw [h1, h2]; rfl

theorem okLn_u {u : List (List Cell)} (h : okRowsU u = true) : okLn u = true ∧ u.length < 9223372036854775808 := by
  have := (okRows_ofU h).1
  exact ⟨okLn_mk (by omega), by omega⟩

theorem len0 (l : List (List Cell)) : ((l.length : Int) == 0) = decide (l.length = 0) := by
  rw [Bool.eq_iff_iff, beq_iff_eq, decide_eq_true_eq]; omega

theorem lenp (l : List (List Cell)) : decide ((l.length : Int) > 0) = decide (0 < l.length) := by
  apply decide_eq_decide.2; omega

theorem k58 (n : Int) : runF E (callOf L18) 1 58 [.one (.int .i64 n)] [] = some ([.one (.bool (isUser n))], []) := by
  rw [e58]
  unfold isUser isClient isAdmin
  cases decide (n ≥ 101) <;> cases decide (n < 107) <;> cases decide (n ≥ 201) <;> rfl

theorem k19 (n : Int) : runF E (callOf L58) 1 19 [.one (.int .i64 n)] [] = some ([.one (.bool (isProc n))], []) := by
  rw [e19]
  unfold isProc isServer
  cases decide (n ≥ 1) <;> cases decide (n ≤ 12) <;> rfl

theorem k23 (n : Int) : runF E (callOf L19) 1 23 [.one (.int .i64 n)] [] = some ([.one (.bool (isProc n))], []) := by
  rw [e23]
  unfold isProc isUser
  cases isServer n <;> cases isClient n <;> rfl

theorem k60 (f t : List (List Cell)) : runF E (callOf L23) 1 60 [.agg [.sl false 93 f, .sl false 93 t]] [] = some ([.one (.bool (noT f t))], []) := by
  rw [e60, len0, len0]
  unfold noT
  cases decide (f.length = 0) <;> rfl

theorem k69 (f t : List (List Cell)) : runF E (callOf L60) 1 69 [.agg [.sl false 93 f, .sl false 93 t]] [] = some ([.one (.bool (noT f t))], []) := by
  rw [e69, len0, len0]
  unfold noT
  cases decide (f.length = 0) <;> rfl

theorem idxFF_range (f : Int) : ∀ (c : List (List Cell)) (i : Int), 0 ≤ i → (0 ≤ idxFF f i c ↔ inF c f = true)
  | [], i, h => by simp [idxFF, inF]
  | q :: c, i, h => by
    have ih := idxFF_range f c (i + 1) (by omega)
    unfold idxFF
    unfold inF at ih ⊢
    rw [List.any_cons]
    by_cases hr : f = nr q 0
    · simp [hr, h]
    · rw [if_neg hr, ih]
      have : (nr q 0 == f) = false := by simpa using Ne.symm hr
      rw [this, Bool.false_or]

theorem l59 (l : List (List Cell)) (f : Int) (hl : l.length < 9223372036854775808) : ∀ (d i : Nat), i + d = l.length →
    ∃ m, goF E (callOf L69) F59 0 m P59_0 (M59_0 l f l.length i) = some ([.one (.int .i64 (idxFF f i (l.drop i)))], [])
  | 0, i, hi => by
    refine ⟨1, ?_⟩
    rw [e59_0]
    have : l.drop i = [] := List.drop_eq_nil_of_le (by omega)
    rw [this, idxFF]
    exact cf (decide_eq_false (by omega)) rfl
  | d + 1, i, hi => by
    obtain ⟨m, hm⟩ := l59 l f hl d (i + 1) (by omega)
    refine ⟨m + 1, ?_⟩
    rw [e59_0, drop_cons l i (by omega), idxFF, Int.toNat_natCast, nat_wrap (n := l.length) (by omega) hl]
    refine ct (decide_eq_true (by omega)) (ct (inB_nat' (by omega)) ?_)
    by_cases hr : f = nr (Abs.rowAt l i) 0
    · rw [if_pos hr]
      exact ct (beq_iff_eq.2 hr) rfl
    · rw [if_neg hr]
      refine cf (by simpa using hr) ?_
      rw [hm]
      rfl

theorem k59 (l : List (List Cell)) (f : Int) (h : l.length < 9223372036854775808) :
    ∃ m, runF E (callOf L69) m 59 [.one (.sl false 54 l), .one (.int .i64 f)] [] = some ([.one (.int .i64 (idxF l f))], []) := by
  obtain ⟨m, hm⟩ := l59 l f h l.length 0 (by omega)
  exact ⟨m + 1, by rw [e59]; exact hm⟩

theorem k20 (l : List (List Cell)) (f : Int) (h : l.length < 9223372036854775808) :
    runF E (callOf L59) 1 20 [.one (.sl false 54 l), .one (.int .i64 f)] [] = some ([.one (.bool (inF l f))], []) := by
  rw [e20]
  refine ct (decide_eq_true h) ?_
  refine congrArg (fun z => some ([AV.one (AC.bool z)], ([] : List Block))) ?_
  have h := idxFF_range f l 0 (by omega)
  unfold idxF
  cases hc : inF l f
  · rw [hc] at h
    exact decide_eq_false (fun h0 => by cases h.1 h0)
  · rw [hc] at h
    exact decide_eq_true (h.2 rfl)

theorem ci {α : Type} {p : Prop} [Decidable p] {b : Bool} {x y : α} (h : b = decide p) : cond b x y = if p then x else y := by
  subst h
  by_cases hp : p
  · rw [if_pos hp, decide_eq_true hp]; rfl
  · rw [if_neg hp, decide_eq_false hp]; rfl

theorem bint (x y : Int) : (x == y) = decide (x = y) := by rw [Bool.eq_iff_iff, beq_iff_eq, decide_eq_true_eq]

theorem oneB_if {p : Prop} [Decidable p] (x y : Bool) : (if p then some ([AV.one (.bool x)], ([] : List Block)) else some ([AV.one (.bool y)], [])) = some ([AV.one (.bool (if p then x else y))], []) := by split <;> rfl

theorem oneI_cond (b : Bool) (x y : Int) : (cond b (some ([AV.one (.int .i64 x)], ([] : List Block))) (some ([AV.one (.int .i64 y)], []))) = some ([AV.one (.int .i64 (if b = true then x else y))], []) := by cases b <;> rfl

theorem k21 (w : Msg) (f : Int) : runF E (callOf L20) 1 21 [msgV w, .one (.int .i64 f)] [] = some ([.one (.bool (zeroW w f))], []) := by
  unfold msgV
  rw [e21]
  simp only [len0, ci (bint f _), oneB_if, Bool.and_true]
  rfl

theorem vCh_first (c : List (List Cell)) (q : List Cell) : vChF true [] c = vChF true q c := by
  cases c <;> simp [vChF]

theorem vCh_step (b : Bool) (q r : List Cell) (rs : List (List Cell)) : vChF b q (r :: rs) =
    if vUpdR r ≠ 0 then vUpdR r else if b = false ∧ cmpU (nr r 0) (nr r 1) (nr q 0) (nr q 1) ≤ 0 then 7 else vChF false r rs := rfl

theorem l109 (c : List (List Cell)) (hc : c.length ≤ 4) : ∀ (d i : Nat), i + d = c.length →
    ∃ m, goF E (callOf L21) F109 0 m P109_0 (M109_0 c c c.length i) = some ([.one (.int .i64 (vChF (decide (i = 0)) (Abs.rowAt c (i - 1)) (c.drop i)))], [])
  | 0, i, hi => by
    refine ⟨1, ?_⟩
    rw [e109_0]
    have : c.drop i = [] := List.drop_eq_nil_of_le (by omega)
    rw [this, vChF]
    exact cf (decide_eq_false (by omega)) rfl
  | d + 1, i, hi => by
    have hi' : i < c.length := by omega
    obtain ⟨m, hm⟩ := l109 c hc d (i + 1) (by omega)
    rw [decide_eq_false (by omega : ¬ i + 1 = 0), Nat.add_sub_cancel] at hm
    refine ⟨m + 1, ?_⟩
    rw [e109_0, drop_cons c i hi', vCh_step, Int.toNat_natCast, nat_wrap (n := c.length) hi' (by omega), hm]
    refine ct (decide_eq_true (by omega)) (ct (inB_nat' hi') ?_)
    generalize hr : Abs.rowAt c i = r
    show cond (vUpdR r != 0) (some ([AV.one (AC.int .i64 (vUpdR r))], ([] : List Block))) _ = _
    by_cases hv : vUpdR r = 0
    · rw [if_neg (by simpa using hv)]
      refine cf (by simpa using hv) ?_
      by_cases h0 : i = 0
      · subst h0
        rw [decide_eq_true rfl, if_neg (by simp)]
        exact cf (decide_eq_false (by simp)) rfl
      · rw [wrap64 (n := (i : Int) - 1) (by omega) (by omega), show ((i : Int) - 1).toNat = i - 1 by omega]
        rw [decide_eq_false h0]
        generalize Abs.rowAt c (i - 1) = q
        refine ct (decide_eq_true (by omega)) (ct (inB_of (by omega) (by omega)) ?_)
        by_cases h2 : cmpU (nr r 0) (nr r 1) (nr q 0) (nr q 1) ≤ 0
        · rw [if_pos ⟨rfl, h2⟩]
          exact ct (decide_eq_true h2) rfl
        · rw [if_neg (fun h => h2 h.2)]
          exact cf (decide_eq_false h2) rfl
    · rw [if_pos hv]
      exact ct (by simpa using hv) rfl

theorem k109 (c : List (List Cell)) : ∃ m, runF E (callOf L21) m 109 [.one (.sl false 96 c)] [] = some ([.one (.int .i64 (vCh c))], []) := by
  by_cases hc : 4 < c.length
  · refine ⟨1, ?_⟩
    rw [e109]
    unfold vCh
    rw [if_pos hc]
    exact ct (decide_eq_true (by omega)) rfl
  · obtain ⟨m, hm⟩ := l109 c (by omega) c.length 0 (by omega)
    refine ⟨m + 1, ?_⟩
    rw [e109]
    refine cf (decide_eq_false (by omega)) (Eq.trans hm ?_)
    unfold vCh
    rw [if_neg hc, decide_eq_true rfl, List.drop_zero, vCh_first _ (Abs.rowAt c (0 - 1))]

theorem l28 (c : List (List Cell)) (hc : c.length ≤ 4) : ∀ (d i : Nat), i + d = c.length →
    ∃ m, goF E (callOf L109) F28 0 m P28_0 (M28_0 c i) = some ([.one (.int .i64 (vChF (decide (i = 0)) (Abs.rowAt c (i - 1)) (c.drop i)))], [])
  | 0, i, hi => by
    refine ⟨1, ?_⟩
    rw [e28_0]
    have : c.drop i = [] := List.drop_eq_nil_of_le (by omega)
    rw [this, vChF]
    exact cf (decide_eq_false (by omega)) rfl
  | d + 1, i, hi => by
    have hi' : i < c.length := by omega
    obtain ⟨m, hm⟩ := l28 c hc d (i + 1) (by omega)
    rw [decide_eq_false (by omega : ¬ i + 1 = 0), Nat.add_sub_cancel] at hm
    have hib := inB_nat' hi'
    refine ⟨m + 1, ?_⟩
    rw [e28_0, drop_cons c i hi', vCh_step, Int.toNat_natCast, nat_wrap (n := c.length) hi' (by omega), hm]
    refine ct (decide_eq_true (by omega)) (ct hib ?_)
    generalize hr : Abs.rowAt c i = r
    show cond (vUpdR r != 0) (some ([AV.one (AC.int .i64 (vUpdR r))], ([] : List Block))) _ = _
    by_cases hv : vUpdR r = 0
    · rw [if_neg (by simpa using hv)]
      refine cf (by simpa using hv) ?_
      by_cases h0 : i = 0
      · subst h0
        rw [decide_eq_true rfl, if_neg (by simp)]
        exact cf (decide_eq_false (by simp)) rfl
      · rw [wrap64 (n := (i : Int) - 1) (by omega) (by omega), show ((i : Int) - 1).toNat = i - 1 by omega]
        rw [decide_eq_false h0]
        generalize Abs.rowAt c (i - 1) = q
        have hsw := cmpU_swap (nr r 0) (nr r 1) (nr q 0) (nr q 1)
        refine ct (decide_eq_true (by omega)) (ct (inB_of (by omega) (by omega)) (ct hib ?_))
        by_cases h2 : cmpU (nr r 0) (nr r 1) (nr q 0) (nr q 1) ≤ 0
        · rw [if_pos ⟨rfl, h2⟩]
          exact ct (decide_eq_true (hsw.2 h2)) rfl
        · rw [if_neg (fun h => h2 h.2)]
          exact cf (decide_eq_false (fun h => h2 (hsw.1 h))) rfl
    · rw [if_pos hv]
      exact ct (by simpa using hv) rfl

theorem k28 (c : List (List Cell)) : ∃ m, runF E (callOf L109) m 28 [.one (.sl false 96 c)] [] = some ([.one (.int .i64 (vCh c))], []) := by
  by_cases hc : 4 < c.length
  · refine ⟨1, ?_⟩
    rw [e28]
    unfold vCh
    rw [if_pos hc]
    exact ct (decide_eq_true (by omega)) rfl
  · obtain ⟨m, hm⟩ := l28 c (by omega) c.length 0 (by omega)
    refine ⟨m + 1, ?_⟩
    rw [e28]
    refine cf (decide_eq_false (by omega)) (Eq.trans hm ?_)
    unfold vCh
    rw [if_neg hc, decide_eq_true rfl, List.drop_zero, vCh_first _ (Abs.rowAt c (0 - 1))]

theorem k62 (w : Msg) (h : okLn w.u = true) : runF E (callOf L28) 1 62 [msgV w] [] = some ([.one (.int .i64 (vStW w))], []) := by
  unfold msgV
  rw [e62, lenp]
  unfold vStW
  have hl := okLn_of h
  by_cases h5 : w.k = 5
  · rw [if_pos h5]
    exact ct (beq_iff_eq.2 h5) (ct (decide_eq_true (by omega)) rfl)
  · rw [if_neg h5]
    refine cf (by simpa using h5) (ct h ?_)
    by_cases hv : vSt w.u = 0
    · rw [if_neg (by simpa using hv)]
      refine cf (by simpa using hv) ?_
      by_cases h1 : w.k = 1
      · by_cases h2 : w.o = 1
        · refine ct (beq_iff_eq.2 h1) (ct (beq_iff_eq.2 h2) ?_)
          by_cases h3 : 0 < w.u.length
          · rw [if_pos ⟨h1, h2, h3⟩]; exact ct (decide_eq_true h3) rfl
          · rw [if_neg fun h => h3 h.2.2]; exact cf (decide_eq_false h3) rfl
        · rw [if_neg fun h => h2 h.2.1]
          exact ct (beq_iff_eq.2 h1) (cf (by simpa using h2) rfl)
      · rw [if_neg fun h => h1 h.1]
        exact cf (by simpa using h1) rfl
    · rw [if_pos hv]
      exact ct (by simpa using hv) rfl

theorem l64 (v : List (List Cell)) (hv : v.length ≤ 1000) : ∀ (d i : Nat), i + d = v.length →
    ∃ m, goF E (callOf L62) F64 0 m P64_0 (M64_0 v v v.length i) = some ([.one (.int .i64 (vVecF (decide (i = 0)) (Abs.rowAt v (i - 1)) (v.drop i)))], [])
  | 0, i, hi => by
    refine ⟨1, ?_⟩
    rw [e64_0]
    have : v.drop i = [] := List.drop_eq_nil_of_le (by omega)
    rw [this, vVecF]
    exact cf (decide_eq_false (by omega)) rfl
  | d + 1, i, hi => by
    have hi' : i < v.length := by omega
    obtain ⟨m, hm⟩ := l64 v hv d (i + 1) (by omega)
    rw [decide_eq_false (by omega : ¬ i + 1 = 0), Nat.add_sub_cancel] at hm
    refine ⟨m + 1, ?_⟩
    rw [e64_0, drop_cons v i hi', vVecF, Int.toNat_natCast, nat_wrap (n := v.length) hi' (by omega), hm]
    refine ct (decide_eq_true (by omega)) (ct (inB_nat' hi') ?_)
    generalize hr : Abs.rowAt v i = r
    by_cases h1 : nr r 0 < 1
    · rw [if_pos (.inl h1)]; exact ct (decide_eq_true h1) rfl
    · refine cf (decide_eq_false h1) ?_
      by_cases h2 : nr r 1 < 1
      · rw [if_pos (.inr (.inl h2))]; exact ct (decide_eq_true h2) rfl
      · refine cf (decide_eq_false h2) ?_
        by_cases h3 : 1000000 < nr r 1
        · rw [if_pos (.inr (.inr h3))]; exact ct (decide_eq_true h3) rfl
        · rw [if_neg (by omega)]
          refine cf (decide_eq_false h3) ?_
          by_cases h0 : i = 0
          · subst h0
            rw [decide_eq_true rfl, if_neg (by simp)]
            exact cf (decide_eq_false (by simp)) rfl
          · rw [wrap64 (n := (i : Int) - 1) (by omega) (by omega), show ((i : Int) - 1).toNat = i - 1 by omega, decide_eq_false h0]
            refine ct (decide_eq_true (by omega)) (ct (inB_of (by omega) (by omega)) ?_)
            generalize Abs.rowAt v (i - 1) = q
            by_cases h4 : nr r 0 ≤ nr q 0
            · rw [if_pos ⟨rfl, h4⟩]; exact ct (decide_eq_true h4) rfl
            · rw [if_neg fun h => h4 h.2]; exact cf (decide_eq_false h4) rfl

theorem k64 (v : List (List Cell)) (h : okLn v = true) : ∃ m, runF E (callOf L62) m 64 [.one (.sl false 103 v)] [] = some ([.one (.int .i64 (vVec v))], []) := by
  obtain ⟨m, hm⟩ := l64 v (okLn_of h) v.length 0 (by omega)
  refine ⟨m + 1, ?_⟩
  rw [e64]
  refine Eq.trans hm ?_
  rw [decide_eq_true rfl, List.drop_zero, vVecF_first _ []]
  rfl

theorem k22 (w : Msg) (f : Int) (hw : okW w = true) : runF E (callOf L64) 1 22 [msgV w, .one (.int .i64 f)] [] = some ([.one (.int .i64 (vFieldW w f))], []) := by
  obtain ⟨h1, h2, h3, h4, h5, h6, h7, h8, h9⟩ := okW_of hw
  unfold msgV
  rw [e22]
  simp only [ci (bint f _), ci (rfl : decide _ = decide _), and2 h1 h2, and2 h3 h4, and2 h5 h6, h7, (okLn_u h8).1, h9, cond_true]
  unfold vFieldW
  by_cases c0 : f = 0
  · rw [if_pos c0, if_pos c0]
    cases isUser w.p
    · rfl
    · simp only [Bool.not_true, cond_false]
      by_cases d1 : w.n < 1
      · rw [if_pos d1, if_neg (by omega)]
      · rw [if_neg d1]
        by_cases d2 : w.n > 1000000
        · rw [if_pos d2, if_neg (by omega)]
        · rw [if_neg d2, if_pos ⟨trivial, by omega, by omega⟩]
  rw [if_neg c0, if_neg c0]
  by_cases c1 : f = 1
  · rw [if_pos c1, if_pos c1]
    by_cases d1 : w.r < 1
    · rw [if_pos d1, if_neg (by omega)]
    · rw [if_neg d1]
      by_cases d2 : w.r > 1000000
      · rw [if_pos d2, if_neg (by omega)]
      · rw [if_neg d2, if_pos ⟨by omega, by omega⟩]
  rw [if_neg c1, if_neg c1]
  by_cases c2 : f = 2
  · rw [if_pos c2, if_pos c2]
    by_cases d1 : w.o < 1
    · rw [if_pos d1, if_neg (by omega)]
    · rw [if_neg d1]
      by_cases d2 : w.o > 3
      · rw [if_pos d2, if_neg (by omega)]
      · rw [if_neg d2, if_pos ⟨by omega, by omega⟩]
  rw [if_neg c2, if_neg c2]
  by_cases c3 : f = 3
  · rw [if_pos c3, if_pos c3]
  rw [if_neg c3, if_neg c3]
  by_cases c4 : f = 4
  · rw [if_pos c4, if_pos c4]
  rw [if_neg c4, if_neg c4]
  by_cases c5 : f = 5
  · rw [if_pos c5, if_pos c5]
  rw [if_neg c5, if_neg c5]
  by_cases c6 : f = 6
  · rw [if_pos c6, if_pos c6]
  rw [if_neg c6, if_neg c6]
  by_cases c9 : f = 9
  · rw [if_pos c9, if_pos c9]
    cases w.h <;> cases noT w.bf w.bt <;> rfl
  rw [if_neg c9, if_neg c9]
  by_cases c10 : f = 10
  · rw [if_pos c10, if_pos c10]
  rw [if_neg c10, if_neg c10]

theorem usedR_len (k : Int) : (usedR k).length ≤ 7 := by
  unfold usedR usedL
  repeat' split
  all_goals simp

theorem l8b (w : Msg) (hw : okW w = true) (l : List (List Cell)) (hl : l.length ≤ 7) : ∀ (d i : Nat), i + d = l.length →
    ∃ m, goF E (callOf L22) F8 0 m P8_1 (M8_1 l l.length i w.k w.f w.t w.p w.n w.r w.o w.cf w.ct w.bf w.bt w.h w.ef w.et w.g w.u w.v w.m) = some ([.one (.int .i64 (vAll w (l.drop i)))], [])
  | 0, i, hi => by
    refine ⟨1, ?_⟩
    rw [e8_1]
    have : l.drop i = [] := List.drop_eq_nil_of_le (by omega)
    rw [this, vAll]
    exact cf (decide_eq_false (by omega)) rfl
  | d + 1, i, hi => by
    have hi' : i < l.length := by omega
    obtain ⟨m, hm⟩ := l8b w hw l hl d (i + 1) (by omega)
    refine ⟨m + 1, ?_⟩
    rw [e8_1, drop_cons l i hi', vAll, Int.toNat_natCast, nat_wrap (n := l.length) hi' (by omega), hm]
    refine ct (decide_eq_true (by omega)) (ct (inB_nat' hi') (ct hw ?_))
    show cond (vFieldW w (nr (Abs.rowAt l i) 0) != 0) (some ([AV.one (AC.int .i64 (vFieldW w (nr (Abs.rowAt l i) 0)))], ([] : List Block))) _ = _
    by_cases hv : vFieldW w (nr (Abs.rowAt l i) 0) = 0
    · rw [if_neg (by simpa using hv)]
      exact cf (by simpa using hv) rfl
    · rw [if_pos hv]
      exact ct (by simpa using hv) rfl

theorem l8 (w : Msg) (hw : okW w = true) (l : List (List Cell)) (hl : l.length ≤ 7) : ∀ (d i : Nat), i + d = 11 →
    ∃ m, goF E (callOf L22) F8 0 m P8_0 (M8_0 l i w.k w.f w.t w.p w.n w.r w.o w.cf w.ct w.bf w.bt w.h w.ef w.et w.g w.u w.v w.m) = some ([.one (.int .i64 (if badF w l d i = true then 2 else vAll w l))], [])
  | 0, i, hi => by
    obtain ⟨m, hm⟩ := l8b w hw l hl l.length 0 (by omega)
    refine ⟨m + 1, ?_⟩
    rw [e8_0]
    exact cf (decide_eq_false (by omega)) hm
  | d + 1, i, hi => by
    obtain ⟨m, hm⟩ := l8 w hw l hl d (i + 1) (by omega)
    refine ⟨m + 1, ?_⟩
    rw [e8_0, nat_wrap (i := i) (n := 11) (by omega) (by omega), hm]
    refine ct (decide_eq_true (by omega)) (ct (decide_eq_true (by omega)) ?_)
    show cond (!(inF l i)) (cond (!(zeroW w i)) _ _) _ = _
    rw [badF]
    cases inF l i <;> cases zeroW w i <;> rfl

theorem k8 (w : Msg) (hw : okW w = true) : ∃ m, runF E (callOf L22) m 8 [msgV w] [] = some ([.one (.int .i64 (vMsg w))], []) := by
  obtain ⟨m, hm⟩ := l8 w hw (usedR w.k) (usedR_len _) 11 0 (by omega)
  refine ⟨m + 1, ?_⟩
  unfold msgV
  rw [e8]
  unfold vMsg
  cases hu : usedL w.k with
  | none => rfl
  | some l =>
    rw [if_neg (by simp)]
    refine cf rfl ?_
    cases h1 : isProc w.f with
    | false => rw [if_pos (.inl rfl)]; rfl
    | true =>
      cases h2 : isProc w.t with
      | false => rw [if_pos (.inr rfl)]; rfl
      | true =>
        rw [if_neg (by simp)]
        exact cf rfl (cf rfl hm)

end Go.Proofs.YtejimgikldiajaaGreat

namespace Go.Proofs.YtejimgikldiajaaGreat

open Go.Abs

theorem nn {x : Int} (h : x = 0) : ¬ x ≠ 0 := fun g => g h

theorem n0 : ¬ (0 : Int) ≠ 0 := fun g => g rfl

theorem u8 (m : Nat) (t : Bool) : goF E (callOf L68) F24 0 (m + 2) P24_8 (M24_8 t) = some ([.one (.bool (!t))], []) := by
  rw [e24_8, e24_9]
  cases t <;> rfl

theorem u6 (m : Nat) (t : Bool) (w : Msg) (a r o g s b c h q : Bool) : goF E (callOf L68) F24 0 (m + 3) P24_6 (M24_6 t w.k w.f w.t w.p w.n w.r w.o w.cf w.ct w.bf w.bt w.h w.ef w.et w.g w.u w.v w.m a r o g s b c h q) = some ([.one (.bool (!(t || unT c w)))], []) := by
  rw [e24_6, u8, u8, u8]
  unfold unT
  cases t <;> cases c <;> cases noT w.cf w.ct <;> rfl

theorem u4 (m : Nat) (t : Bool) (w : Msg) (a r o g s b c h q : Bool) : goF E (callOf L68) F24 0 (m + 4) P24_4 (M24_4 t w.k w.f w.t w.p w.n w.r w.o w.cf w.ct w.bf w.bt w.h w.ef w.et w.g w.u w.v w.m a r o g s b c h q) = some ([.one (.bool (!(t || unB b c w)))], []) := by
  rw [e24_4, u6, u6, u6]
  unfold unB
  generalize unT c w = y
  generalize noT w.bf w.bt = y1
  generalize noT w.ef w.et = y2
  generalize w.h = y3
  cases t <;> cases b <;> cases y1 <;> cases y2 <;> cases y3 <;> cases y <;> rfl

theorem u7 (m : Nat) (t : Bool) (w : Msg) (a r o g s b c h q : Bool) : goF E (callOf L68) F24 0 (m + 5) P24_7 (M24_7 t w.k w.f w.t w.p w.n w.r w.o w.cf w.ct w.bf w.bt w.h w.ef w.et w.g w.u w.v w.m a r o g s b c h q) = some ([.one (.bool (!(t || ((!q && w.m) || unB b c w))))], []) := by
  rw [e24_7, u4, u4, u4]
  generalize unB b c w = y
  generalize w.m = y1
  cases t <;> cases q <;> cases y <;> cases y1 <;> rfl

theorem u5 (m : Nat) (t : Bool) (w : Msg) (a r o g s b c h q : Bool) : goF E (callOf L68) F24 0 (m + 6) P24_5 (M24_5 t w.k w.f w.t w.p w.n w.r w.o w.cf w.ct w.bf w.bt w.h w.ef w.et w.g w.u w.v w.m a r o g s b c h q) = some ([.one (.bool (!(t || ((!h && decide (0 < w.v.length)) || ((!q && w.m) || unB b c w)))))], []) := by
  rw [e24_5, u7, u7, u4 (m + 1), lenp]
  generalize ((!q && w.m) || unB b c w) = y
  generalize unB b c w = y0
  generalize decide (0 < w.v.length) = y1
  cases t <;> cases h <;> cases y1 <;> rfl

theorem u3 (m : Nat) (t : Bool) (w : Msg) (a r o g s b c h q : Bool) : goF E (callOf L68) F24 0 (m + 7) P24_3 (M24_3 t w.k w.f w.t w.p w.n w.r w.o w.cf w.ct w.bf w.bt w.h w.ef w.et w.g w.u w.v w.m a r o g s b c h q) = some ([.one (.bool (!(t || unC s b c h q w)))], []) := by
  rw [e24_3, u5, u5, u4 (m + 2), lenp]
  unfold unC
  generalize ((!h && decide (0 < w.v.length)) || ((!q && w.m) || unB b c w)) = y
  generalize unB b c w = y0
  generalize decide (0 < w.u.length) = y1
  cases t <;> cases s <;> cases y1 <;> rfl

theorem u1 (m : Nat) (t : Bool) (w : Msg) (a r o g s b c h q : Bool) : goF E (callOf L68) F24 0 (m + 8) P24_1 (M24_1 t w.k w.f w.t w.p w.n w.r w.o w.cf w.ct w.bf w.bt w.h w.ef w.et w.g w.u w.v w.m a r o g s b c h q) = some ([.one (.bool (!(t || ((!g && decide (0 < w.g.length)) || unC s b c h q w))))], []) := by
  rw [e24_1, u3, u3, lenp]
  generalize unC s b c h q w = y
  generalize decide (0 < w.g.length) = y1
  cases t <;> cases g <;> cases y1 <;> rfl

theorem u2 (m : Nat) (t : Bool) (w : Msg) (a r o g s b c h q : Bool) : goF E (callOf L68) F24 0 (m + 9) P24_2 (M24_2 t w.k w.f w.t w.p w.n w.r w.o w.cf w.ct w.bf w.bt w.h w.ef w.et w.g w.u w.v w.m a r o g s b c h q) = some ([.one (.bool (!(t || ((!o && (w.o != 0)) || ((!g && decide (0 < w.g.length)) || unC s b c h q w)))))], []) := by
  rw [e24_2, u1, u1, u1]
  generalize ((!g && decide (0 < w.g.length)) || unC s b c h q w) = y
  generalize (w.o != 0) = y1
  cases t <;> cases o <;> cases y1 <;> rfl

theorem u0 (m : Nat) (t : Bool) (w : Msg) (a r o g s b c h q : Bool) : goF E (callOf L68) F24 0 (m + 10) P24_0 (M24_0 t w.k w.f w.t w.p w.n w.r w.o w.cf w.ct w.bf w.bt w.h w.ef w.et w.g w.u w.v w.m a r o g s b c h q) = some ([.one (.bool (!(t || ((!r && (w.r != 0)) || ((!o && (w.o != 0)) || ((!g && decide (0 < w.g.length)) || unC s b c h q w))))))], []) := by
  rw [e24_0, u2, u2, u1 (m + 1)]
  generalize ((!o && (w.o != 0)) || ((!g && decide (0 < w.g.length)) || unC s b c h q w)) = y
  generalize ((!g && decide (0 < w.g.length)) || unC s b c h q w) = y0
  generalize (w.r != 0) = y1
  cases t <;> cases r <;> cases y1 <;> rfl

theorem k24 (w : Msg) : runF E (callOf L68) 11 24 [msgV w] [] = some ([.one (.bool (unusedW w))], []) := by
  unfold msgV
  rw [e24, u0, u0]
  unfold unusedW unusedB
  rw [Bool.and_true]
  generalize ((!uA w.k && (w.r != 0)) || ((!(w.k == 1) && (w.o != 0)) || ((!uA w.k && decide (0 < w.g.length)) || unC (uS w.k) (uB w.k) (!uA w.k) (w.k == 4) (w.k == 5) w))) = y
  generalize ((w.p == 0) && (w.n == 0)) = y1
  cases uA w.k <;> cases y1 <;> rfl

theorem k68 (k : Int) : runF E (callOf L8) 1 68 [.one (.int .i64 k)] [] = some ([.agg [.bool (uA k), .bool (uA k), .bool (k == 1), .bool (uA k), .bool (uS k), .bool (uB k), .bool (!(uA k)), .bool (k == 4), .bool (k == 5)]], []) := by
  rw [e68]
  by_cases h1 : k = 1
  · subst h1; rfl
  by_cases h2 : k = 2
  · subst h2; rfl
  by_cases h4 : k = 4
  · subst h4; rfl
  by_cases h5 : k = 5
  · subst h5; rfl
  have q1 : (k == 1) = false := by simpa using h1
  have q2 : (k == 2) = false := by simpa using h2
  have q4 : (k == 4) = false := by simpa using h4
  have q5 : (k == 5) = false := by simpa using h5
  unfold uA uS uB
  rw [q1, q2, q4, q5]
  rfl

theorem k29 (w : Msg) (hw : okW w = true) : runF E (callOf L24) 1 29 [msgV w] [] = some ([.one (.int .i64 (vBases w))], []) := by
  obtain ⟨h1, h2, h3, h4, h5, h6, h7, h8, h9⟩ := okW_of hw
  unfold msgV
  rw [e29, and2 h3 h4, and2 h5 h6]
  unfold vBases
  simp only [cond_true, oneI_cond, bne_iff_ne, beq_iff_eq, decide_eq_true_eq, ne_eq]
  refine congrArg (fun z => some ([AV.one (AC.int .i64 z)], ([] : List Block))) ?_
  (repeat' split) <;> first | rfl | omega | (simp_all; done) | (simp_all; omega)

theorem x4 (m : Nat) : goF E (callOf L29) F25 0 (m + 1) P25_4 M25_4 = some ([.one (.int .i64 0)], []) := by rw [e25_4]

theorem x3 (m : Nat) (t : Bool) (w : Msg) (hw : okW w = true) : goF E (callOf L29) F25 0 (m + 2) P25_3 (M25_3 t w.k w.f w.t w.p w.n w.r w.o w.cf w.ct w.bf w.bt w.h w.ef w.et w.g w.u w.v w.m) = some ([.one (.int .i64 (if t = true then 2 else if w.k = 2 then vBases w else 0))], []) := by
  have hM : okM w.cf w.ct w.bf w.bt w.ef w.et w.g w.u w.v = true := hw
  rw [e25_3, x4, hM]
  simp only [cond_true, oneI_cond, beq_iff_eq]

theorem x2 (m : Nat) (t : Bool) (w : Msg) (hw : okW w = true) : goF E (callOf L29) F25 0 (m + 3) P25_2 (M25_2 t w.k w.f w.t w.p w.n w.r w.o w.cf w.ct w.bf w.bt w.h w.ef w.et w.g w.u w.v w.m) =
    some ([.one (.int .i64 (if t = true then 10 else if vCfg w.g ≠ 0 then vCfg w.g else if vSt w.u ≠ 0 then vSt w.u else if w.o = 1 ∧ 0 < w.u.length then 2 else if w.k = 2 then vBases w else 0))], []) := by
  obtain ⟨_, _, _, _, _, _, h7, h8, _⟩ := okW_of hw
  rw [e25_2, x3 _ _ _ hw, x3 _ _ _ hw, h7, (okLn_u h8).1, lenp]
  simp only [cond_true, oneI_cond, bne_iff_ne, beq_iff_eq, decide_eq_true_eq, ne_eq]
  refine congrArg (fun z => some ([AV.one (AC.int .i64 z)], ([] : List Block))) ?_
  (repeat' split) <;> first | rfl | omega | (simp_all; done) | (simp_all; omega)

theorem x1 (m : Nat) (t : Bool) (w : Msg) (hw : okW w = true) : goF E (callOf L29) F25 0 (m + 4) P25_1 (M25_1 t w.k w.f w.t w.p w.n w.r w.o w.cf w.ct w.bf w.bt w.h w.ef w.et w.g w.u w.v w.m) =
    some ([.one (.int .i64 (if t = true then 9 else if w.k = 1 ∧ (w.o < 1 ∨ 3 < w.o) then 10 else if vCfg w.g ≠ 0 then vCfg w.g else if vSt w.u ≠ 0 then vSt w.u else if w.o = 1 ∧ 0 < w.u.length then 2 else if w.k = 2 then vBases w else 0))], []) := by
  rw [e25_1, x2 _ _ _ hw, x2 _ _ _ hw, x2 _ _ _ hw]
  generalize vCfg w.g = a1
  generalize vSt w.u = a2
  generalize vBases w = a3
  simp only [cond_true, oneI_cond, bne_iff_ne, beq_iff_eq, decide_eq_true_eq, ne_eq]
  refine congrArg (fun z => some ([AV.one (AC.int .i64 z)], ([] : List Block))) ?_
  (repeat' split) <;> first | rfl | omega | (simp_all; done) | (simp_all; omega)

theorem x0 (m : Nat) (t : Bool) (w : Msg) (hw : okW w = true) : goF E (callOf L29) F25 0 (m + 5) P25_0 (M25_0 t w.k w.f w.t w.p w.n w.r w.o w.cf w.ct w.bf w.bt w.h w.ef w.et w.g w.u w.v w.m) =
    some ([.one (.int .i64 (if t = true then 9 else if w.r < 1 ∨ 1000000 < w.r then 9 else if w.k = 1 ∧ (w.o < 1 ∨ 3 < w.o) then 10 else if vCfg w.g ≠ 0 then vCfg w.g else if vSt w.u ≠ 0 then vSt w.u else if w.o = 1 ∧ 0 < w.u.length then 2 else if w.k = 2 then vBases w else 0))], []) := by
  rw [e25_0, x1 _ _ _ hw, x1 _ _ _ hw]
  generalize (if w.k = 1 ∧ (w.o < 1 ∨ 3 < w.o) then 10 else if vCfg w.g ≠ 0 then vCfg w.g else if vSt w.u ≠ 0 then vSt w.u else if w.o = 1 ∧ 0 < w.u.length then 2 else if w.k = 2 then vBases w else 0) = a1
  simp only [cond_true, oneI_cond, bne_iff_ne, beq_iff_eq, decide_eq_true_eq, ne_eq]
  refine congrArg (fun z => some ([AV.one (AC.int .i64 z)], ([] : List Block))) ?_
  (repeat' split) <;> first | rfl | omega | (simp_all; done) | (simp_all; omega)

theorem k25 (w : Msg) (hw : okW w = true) : runF E (callOf L29) 6 25 [msgV w] [] = some ([.one (.int .i64 (vExch w))], []) := by
  unfold msgV
  rw [e25, x0 _ _ _ hw, x0 _ _ _ hw]
  unfold vExch isUser
  generalize (if w.k = 1 ∧ (w.o < 1 ∨ 3 < w.o) then 10 else if vCfg w.g ≠ 0 then vCfg w.g else if vSt w.u ≠ 0 then vSt w.u else if w.o = 1 ∧ 0 < w.u.length then 2 else if w.k = 2 then vBases w else 0) = a1
  cases isClient w.p <;> cases isAdmin w.p <;>
  simp only [Bool.not_true, Bool.not_false, cond_true, cond_false, oneI_cond, bne_iff_ne, beq_iff_eq, decide_eq_true_eq, ne_eq, Bool.or_false, Bool.or_true, Bool.or_self] <;>
  refine congrArg (fun z => some ([AV.one (AC.int .i64 z)], ([] : List Block))) ?_ <;>
  (repeat' split) <;> first | rfl | omega | (simp_all; done) | (simp_all; omega)

def vRef (w : Msg) : Int :=
  if w.k < 1 ∨ 8 < w.k then 10
  else if isProc w.f = false ∨ isProc w.t = false then 9
  else if unusedW w = false then 2
  else if w.k = 1 ∨ w.k = 2 then vExch w
  else if vCert w.cf w.ct ≠ 0 then vCert w.cf w.ct
  else if w.k = 4 then vVec w.v
  else if w.k = 5 ∧ vCh w.u ≠ 0 then vCh w.u
  else if w.k = 5 then vBases w
  else 0

theorem kinds_of {k : Int} (h : ¬ (k < 1 ∨ 8 < k)) : k = 1 ∨ k = 2 ∨ k = 3 ∨ k = 4 ∨ k = 5 ∨ k = 6 ∨ k = 7 ∨ k = 8 := by omega

theorem usedL_no {k : Int} (h : k < 1 ∨ 8 < k) : usedL k = none := by
  unfold usedL
  repeat' rw [if_neg (by omega)]

theorem dnot {p : Prop} [Decidable p] : decide (¬ p) = !decide p := by simp

theorem posl (l : List (List Cell)) : decide (0 < l.length) = !decide (l.length = 0) := by
  rw [← dnot]; apply decide_eq_decide.2; omega

theorem same1 (w : Msg) (hk : w.k = 1) : badF w (usedR w.k) 11 0 = !(unusedW w) ∧ (unusedW w = true → vAll w (usedR w.k) = vExch w) := by
  rw [hk]
  constructor
  · have : badF w (usedR 1) 11 0 = (!(zeroW w 5) || (!(zeroW w 6) || (!(zeroW w 7) || (!(zeroW w 8) || (!(zeroW w 9) || (!(zeroW w 10) || false)))))) := rfl
    rw [this]
    unfold unusedW unusedB unC unB unT
    rw [hk]
    show (!(noT w.cf w.ct) || (!(decide (w.v.length = 0)) || (!(!w.m) || (!(!w.h) || (!(noT w.bf w.bt) || (!(noT w.ef w.et) || false)))))) = !(!((!true && !((w.p == 0) && (w.n == 0))) || ((!true && (w.r != 0)) || ((!true && (w.o != 0)) || ((!true && decide (0 < w.g.length)) || ((!true && decide (0 < w.u.length)) || ((!false && decide (0 < w.v.length)) || ((!false && w.m) || ((!false && (w.h || (!(noT w.bf w.bt) || !(noT w.ef w.et)))) || (!(!true) && !(noT w.cf w.ct)))))))))))
    rw [posl w.v]
    generalize noT w.cf w.ct = y1
    generalize noT w.bf w.bt = y2
    generalize noT w.ef w.et = y3
    generalize decide (w.v.length = 0) = y4
    generalize w.m = y5
    generalize w.h = y6
    generalize ((w.p == 0) && (w.n == 0)) = y7
    simp only [Bool.not_true, Bool.false_and, Bool.false_or, Bool.not_false, Bool.true_and, Bool.not_not, Bool.or_false]
    cases y1 <;> cases y2 <;> cases y3 <;> cases y4 <;> cases y5 <;> cases y6 <;> rfl
  · intro _
    show (if vFieldW w 0 ≠ 0 then vFieldW w 0 else if vFieldW w 1 ≠ 0 then vFieldW w 1 else if vFieldW w 2 ≠ 0 then vFieldW w 2 else if vFieldW w 3 ≠ 0 then vFieldW w 3 else if vFieldW w 4 ≠ 0 then vFieldW w 4 else 0) = _
    have f0 : vFieldW w 0 = if isUser w.p = true ∧ 1 ≤ w.n ∧ w.n ≤ 1000000 then 0 else 9 := rfl
    have f1 : vFieldW w 1 = if 1 ≤ w.r ∧ w.r ≤ 1000000 then 0 else 9 := rfl
    have f2 : vFieldW w 2 = if 1 ≤ w.o ∧ w.o ≤ 3 then 0 else 10 := rfl
    have f3 : vFieldW w 3 = vCfg w.g := rfl
    have f4 : vFieldW w 4 = if vSt w.u ≠ 0 then vSt w.u else if w.o = 1 ∧ 0 < w.u.length then 2 else 0 := by
      show vStW w = _
      unfold vStW
      rw [if_neg (by omega)]
      simp only [hk, true_and]
    rw [f0, f1, f2, f3, f4]
    unfold vExch
    by_cases a0 : isUser w.p = true ∧ 1 ≤ w.n ∧ w.n ≤ 1000000
    · have b0 : ¬ (isUser w.p = false ∨ w.n < 1 ∨ 1000000 < w.n) := by rw [a0.1]; simp; omega
      rw [if_pos a0, if_neg n0, if_neg b0]
      by_cases a1 : 1 ≤ w.r ∧ w.r ≤ 1000000
      · rw [if_pos a1, if_neg n0, if_neg (by omega : ¬ (w.r < 1 ∨ 1000000 < w.r))]
        by_cases a2 : 1 ≤ w.o ∧ w.o ≤ 3
        · rw [if_pos a2, if_neg n0, if_neg (by omega : ¬ (w.k = 1 ∧ (w.o < 1 ∨ 3 < w.o)))]
          by_cases a3 : vCfg w.g = 0
          · rw [if_neg (nn a3), if_neg (nn a3)]
            by_cases a4 : vSt w.u = 0
            · rw [if_neg (nn a4), if_neg (nn a4), if_neg (by omega : ¬ w.k = 2)]
              by_cases a5 : w.o = 1 ∧ 0 < w.u.length
              · rw [if_pos a5]; rfl
              · rw [if_neg a5]; rfl
            · have a4' : vSt w.u ≠ 0 := a4
              rw [if_pos a4', if_pos a4', if_pos a4']
          · have a3' : vCfg w.g ≠ 0 := a3
            rw [if_pos a3', if_pos a3']
        · rw [if_neg a2, if_pos (by decide : (10 : Int) ≠ 0), if_pos (by omega : w.k = 1 ∧ (w.o < 1 ∨ 3 < w.o))]
      · rw [if_neg a1, if_pos (by decide : (9 : Int) ≠ 0), if_pos (by omega : w.r < 1 ∨ 1000000 < w.r)]
    · have b0 : isUser w.p = false ∨ w.n < 1 ∨ 1000000 < w.n := by
        cases hu : isUser w.p
        · exact .inl rfl
        · rw [hu] at a0; simp at a0; omega
      rw [if_neg a0, if_pos (by decide : (9 : Int) ≠ 0), if_pos b0]

theorem same2 (w : Msg) (hk : w.k = 2) : badF w (usedR w.k) 11 0 = !(unusedW w) ∧ (unusedW w = true → vAll w (usedR w.k) = vExch w) := by
  rw [hk]
  have hb : badF w (usedR 2) 11 0 = (!(zeroW w 2) || (!(zeroW w 5) || (!(zeroW w 6) || (!(zeroW w 7) || false)))) := rfl
  constructor
  · rw [hb]
    unfold unusedW unusedB unC unB unT
    rw [hk]
    show (!(w.o == 0) || (!(noT w.cf w.ct) || (!(decide (w.v.length = 0)) || (!(!w.m) || false)))) = !(!((!true && !((w.p == 0) && (w.n == 0))) || ((!true && (w.r != 0)) || ((!false && (w.o != 0)) || ((!true && decide (0 < w.g.length)) || ((!true && decide (0 < w.u.length)) || ((!false && decide (0 < w.v.length)) || ((!false && w.m) || ((!true && (w.h || (!(noT w.bf w.bt) || !(noT w.ef w.et)))) || (!(!true) && !(noT w.cf w.ct)))))))))))
    rw [posl w.v]
    show (!(w.o == 0) || _) = !(!((!true && !((w.p == 0) && (w.n == 0))) || ((!true && (w.r != 0)) || ((!false && !(w.o == 0)) || _))))
    generalize noT w.cf w.ct = y1
    generalize noT w.bf w.bt = y2
    generalize noT w.ef w.et = y3
    generalize decide (w.v.length = 0) = y4
    generalize w.m = y5
    generalize w.h = y6
    generalize ((w.p == 0) && (w.n == 0)) = y7
    generalize (w.o == 0) = y8
    simp only [Bool.not_true, Bool.false_and, Bool.false_or, Bool.not_false, Bool.true_and, Bool.not_not, Bool.or_false]
    cases y1 <;> cases y4 <;> cases y5 <;> cases y8 <;> rfl
  · intro hu
    have ho : w.o = 0 := by
      have : badF w (usedR 2) 11 0 = false := by
        have h1 : badF w (usedR 2) 11 0 = !(unusedW w) := by
          rw [hb]
          unfold unusedW unusedB unC unB unT
          rw [hk]
          show (!(w.o == 0) || (!(noT w.cf w.ct) || (!(decide (w.v.length = 0)) || (!(!w.m) || false)))) = !(!((!true && !((w.p == 0) && (w.n == 0))) || ((!true && (w.r != 0)) || ((!false && !(w.o == 0)) || ((!true && decide (0 < w.g.length)) || ((!true && decide (0 < w.u.length)) || ((!false && decide (0 < w.v.length)) || ((!false && w.m) || ((!true && (w.h || (!(noT w.bf w.bt) || !(noT w.ef w.et)))) || (!(!true) && !(noT w.cf w.ct)))))))))))
          rw [posl w.v]
          generalize noT w.cf w.ct = y1
          generalize decide (w.v.length = 0) = y4
          generalize w.m = y5
          generalize (w.o == 0) = y8
          simp only [Bool.not_true, Bool.false_and, Bool.false_or, Bool.not_false, Bool.true_and, Bool.not_not, Bool.or_false]
          cases y1 <;> cases y4 <;> cases y5 <;> cases y8 <;> rfl
        rw [h1, hu]; rfl
      rw [hb] at this
      have h2 : zeroW w 2 = (w.o == 0) := rfl
      rw [h2] at this
      cases h : (w.o == 0)
      · rw [h] at this; cases this
      · exact beq_iff_eq.1 h
    show (if vFieldW w 0 ≠ 0 then vFieldW w 0 else if vFieldW w 1 ≠ 0 then vFieldW w 1 else if vFieldW w 3 ≠ 0 then vFieldW w 3 else if vFieldW w 4 ≠ 0 then vFieldW w 4 else if vFieldW w 8 ≠ 0 then vFieldW w 8 else if vFieldW w 9 ≠ 0 then vFieldW w 9 else if vFieldW w 10 ≠ 0 then vFieldW w 10 else 0) = _
    have f0 : vFieldW w 0 = if isUser w.p = true ∧ 1 ≤ w.n ∧ w.n ≤ 1000000 then 0 else 9 := rfl
    have f1 : vFieldW w 1 = if 1 ≤ w.r ∧ w.r ≤ 1000000 then 0 else 9 := rfl
    have f3 : vFieldW w 3 = vCfg w.g := rfl
    have f8 : vFieldW w 8 = 0 := rfl
    have f9 : vFieldW w 9 = if w.h = false ∧ noT w.bf w.bt = false then 2 else vCert w.bf w.bt := rfl
    have f10 : vFieldW w 10 = vCert w.ef w.et := rfl
    have f4 : vFieldW w 4 = vSt w.u := by
      show vStW w = _
      unfold vStW
      rw [if_neg (by omega)]
      by_cases h : vSt w.u = 0
      · rw [if_neg (by simpa using h), if_neg (by omega), h]
      · rw [if_pos h]
    rw [f0, f1, f3, f4, f8, f9, f10]
    unfold vExch vBases
    rw [if_neg n0]
    by_cases a0 : isUser w.p = true ∧ 1 ≤ w.n ∧ w.n ≤ 1000000
    · have b0 : ¬ (isUser w.p = false ∨ w.n < 1 ∨ 1000000 < w.n) := by rw [a0.1]; simp; omega
      rw [if_pos a0, if_neg n0, if_neg b0]
      by_cases a1 : 1 ≤ w.r ∧ w.r ≤ 1000000
      · rw [if_pos a1, if_neg n0, if_neg (by omega : ¬ (w.r < 1 ∨ 1000000 < w.r)), if_neg (by omega : ¬ (w.k = 1 ∧ (w.o < 1 ∨ 3 < w.o))), if_neg (by omega : ¬ (w.o = 1 ∧ 0 < w.u.length)), if_pos hk]
        by_cases a3 : vCfg w.g = 0
        · rw [if_neg (nn a3), if_neg (nn a3)]
          by_cases a4 : vSt w.u = 0
          · rw [if_neg (nn a4), if_neg (nn a4)]
            by_cases a5 : w.h = false ∧ noT w.bf w.bt = false
            · rw [if_pos a5, if_pos (by decide : (2 : Int) ≠ 0), if_pos a5]
            · rw [if_neg a5, if_neg a5]
              by_cases a6 : vCert w.bf w.bt = 0
              · rw [if_neg (nn a6), if_neg (nn a6)]
                by_cases a7 : vCert w.ef w.et = 0
                · rw [if_neg (nn a7), a7]
                · have a7' : vCert w.ef w.et ≠ 0 := a7
                  rw [if_pos a7']
              · have a6' : vCert w.bf w.bt ≠ 0 := a6
                rw [if_pos a6', if_pos a6']
          · have a4' : vSt w.u ≠ 0 := a4
            rw [if_pos a4', if_pos a4']
        · have a3' : vCfg w.g ≠ 0 := a3
          rw [if_pos a3', if_pos a3']
      · rw [if_neg a1, if_pos (by decide : (9 : Int) ≠ 0), if_pos (by omega : w.r < 1 ∨ 1000000 < w.r)]
    · have b0 : isUser w.p = false ∨ w.n < 1 ∨ 1000000 < w.n := by
        cases hu : isUser w.p
        · exact .inl rfl
        · rw [hu] at a0; simp at a0; omega
      rw [if_neg a0, if_pos (by decide : (9 : Int) ≠ 0), if_pos b0]

theorem same4 (w : Msg) (hk : w.k = 4) : badF w (usedR w.k) 11 0 = !(unusedW w) ∧ vAll w (usedR w.k) = if vCert w.cf w.ct ≠ 0 then vCert w.cf w.ct else vVec w.v := by
  rw [hk]
  constructor
  · have : badF w (usedR 4) 11 0 = (!(zeroW w 0) || (!(zeroW w 1) || (!(zeroW w 2) || (!(zeroW w 3) || (!(zeroW w 4) || (!(zeroW w 7) || (!(zeroW w 8) || (!(zeroW w 9) || (!(zeroW w 10) || false))))))))) := rfl
    rw [this]
    unfold unusedW unusedB unC unB unT
    rw [hk]
    show (!((w.p == 0) && (w.n == 0)) || (!(w.r == 0) || (!(w.o == 0) || (!(decide (w.g.length = 0)) || (!(decide (w.u.length = 0)) || (!(!w.m) || (!(!w.h) || (!(noT w.bf w.bt) || (!(noT w.ef w.et) || false))))))))) = !(!((!false && !((w.p == 0) && (w.n == 0))) || ((!false && !(w.r == 0)) || ((!false && !(w.o == 0)) || ((!false && decide (0 < w.g.length)) || ((!false && decide (0 < w.u.length)) || ((!true && decide (0 < w.v.length)) || ((!false && w.m) || ((!false && (w.h || (!(noT w.bf w.bt) || !(noT w.ef w.et)))) || (!(!false) && !(noT w.cf w.ct)))))))))))
    rw [posl w.v, posl w.g, posl w.u]
    generalize noT w.cf w.ct = y1
    generalize noT w.bf w.bt = y2
    generalize noT w.ef w.et = y3
    generalize decide (w.v.length = 0) = y4
    generalize w.m = y5
    generalize w.h = y6
    generalize ((w.p == 0) && (w.n == 0)) = y7
    generalize (w.o == 0) = y8
    generalize (w.r == 0) = y9
    generalize decide (w.u.length = 0) = y10
    generalize decide (w.g.length = 0) = y11
    simp only [Bool.not_true, Bool.false_and, Bool.false_or, Bool.not_false, Bool.true_and, Bool.not_not, Bool.or_false, Bool.or_assoc]
  · show (if vFieldW w 5 ≠ 0 then vFieldW w 5 else if vFieldW w 6 ≠ 0 then vFieldW w 6 else 0) = _
    have f5 : vFieldW w 5 = vCert w.cf w.ct := rfl
    have f6 : vFieldW w 6 = vVec w.v := rfl
    rw [f5, f6]
    by_cases a : vCert w.cf w.ct = 0
    · rw [if_neg (nn a), if_neg (nn a)]
      by_cases b : vVec w.v = 0
      · rw [if_neg (nn b), b]
      · have b' : vVec w.v ≠ 0 := b
        rw [if_pos b']
    · have a' : vCert w.cf w.ct ≠ 0 := a
      rw [if_pos a', if_pos a']

theorem same5 (w : Msg) (hk : w.k = 5) : badF w (usedR w.k) 11 0 = !(unusedW w) ∧ vAll w (usedR w.k) = if vCert w.cf w.ct ≠ 0 then vCert w.cf w.ct else if vCh w.u ≠ 0 then vCh w.u else vBases w := by
  rw [hk]
  constructor
  · have : badF w (usedR 5) 11 0 = (!(zeroW w 0) || (!(zeroW w 1) || (!(zeroW w 2) || (!(zeroW w 3) || (!(zeroW w 6) || false))))) := rfl
    rw [this]
    unfold unusedW unusedB unC unB unT
    rw [hk]
    show (!((w.p == 0) && (w.n == 0)) || (!(w.r == 0) || (!(w.o == 0) || (!(decide (w.g.length = 0)) || (!(decide (w.v.length = 0)) || false))))) = !(!((!false && !((w.p == 0) && (w.n == 0))) || ((!false && !(w.r == 0)) || ((!false && !(w.o == 0)) || ((!false && decide (0 < w.g.length)) || ((!true && decide (0 < w.u.length)) || ((!false && decide (0 < w.v.length)) || ((!true && w.m) || ((!true && (w.h || (!(noT w.bf w.bt) || !(noT w.ef w.et)))) || (!(!false) && !(noT w.cf w.ct)))))))))))
    rw [posl w.v, posl w.g]
    simp only [Bool.not_true, Bool.false_and, Bool.false_or, Bool.not_false, Bool.true_and, Bool.not_not, Bool.or_false]
  · show (if vFieldW w 5 ≠ 0 then vFieldW w 5 else if vFieldW w 4 ≠ 0 then vFieldW w 4 else if vFieldW w 7 ≠ 0 then vFieldW w 7 else if vFieldW w 8 ≠ 0 then vFieldW w 8 else if vFieldW w 9 ≠ 0 then vFieldW w 9 else if vFieldW w 10 ≠ 0 then vFieldW w 10 else 0) = _
    have f5 : vFieldW w 5 = vCert w.cf w.ct := rfl
    have f7 : vFieldW w 7 = 0 := rfl
    have f8 : vFieldW w 8 = 0 := rfl
    have f9 : vFieldW w 9 = if w.h = false ∧ noT w.bf w.bt = false then 2 else vCert w.bf w.bt := rfl
    have f10 : vFieldW w 10 = vCert w.ef w.et := rfl
    have f4 : vFieldW w 4 = vCh w.u := by
      show vStW w = _
      unfold vStW
      rw [if_pos hk]
    rw [f5, f4, f7, f8, f9, f10]
    unfold vBases
    rw [if_neg n0, if_neg n0]
    by_cases a : vCert w.cf w.ct = 0
    · rw [if_neg (nn a), if_neg (nn a)]
      by_cases b : vCh w.u = 0
      · rw [if_neg (nn b), if_neg (nn b)]
        by_cases a5 : w.h = false ∧ noT w.bf w.bt = false
        · rw [if_pos a5, if_pos (by decide : (2 : Int) ≠ 0), if_pos a5]
        · rw [if_neg a5, if_neg a5]
          by_cases a6 : vCert w.bf w.bt = 0
          · rw [if_neg (nn a6), if_neg (nn a6)]
            by_cases a7 : vCert w.ef w.et = 0
            · rw [if_neg (nn a7), a7]
            · have a7' : vCert w.ef w.et ≠ 0 := a7
              rw [if_pos a7']
          · have a6' : vCert w.bf w.bt ≠ 0 := a6
            rw [if_pos a6', if_pos a6']
      · have b' : vCh w.u ≠ 0 := b
        rw [if_pos b', if_pos b']
    · have a' : vCert w.cf w.ct ≠ 0 := a
      rw [if_pos a', if_pos a']

theorem sameC (w : Msg) (hk : w.k = 3 ∨ w.k = 6 ∨ w.k = 7 ∨ w.k = 8) : badF w (usedR w.k) 11 0 = !(unusedW w) ∧ vAll w (usedR w.k) = vCert w.cf w.ct := by
  have hu : usedR w.k = [[.int .i64 5]] := by rcases hk with h | h | h | h <;> rw [h] <;> rfl
  have q : uA w.k = false ∧ uS w.k = false ∧ uB w.k = false ∧ (w.k == 1) = false ∧ (w.k == 4) = false ∧ (w.k == 5) = false := by rcases hk with h | h | h | h <;> rw [h] <;> exact ⟨rfl, rfl, rfl, rfl, rfl, rfl⟩
  obtain ⟨q1, q2, q3, q4, q5, q6⟩ := q
  rw [hu]
  constructor
  · have : badF w [[.int .i64 5]] 11 0 = (!(zeroW w 0) || (!(zeroW w 1) || (!(zeroW w 2) || (!(zeroW w 3) || (!(zeroW w 4) || (!(zeroW w 6) || (!(zeroW w 7) || (!(zeroW w 8) || (!(zeroW w 9) || (!(zeroW w 10) || false)))))))))) := rfl
    rw [this]
    unfold unusedW unusedB unC unB unT
    rw [q1, q2, q3, q4, q5, q6]
    show (!((w.p == 0) && (w.n == 0)) || (!(w.r == 0) || (!(w.o == 0) || (!(decide (w.g.length = 0)) || (!(decide (w.u.length = 0)) || (!(decide (w.v.length = 0)) || (!(!w.m) || (!(!w.h) || (!(noT w.bf w.bt) || (!(noT w.ef w.et) || false)))))))))) = !(!((!false && !((w.p == 0) && (w.n == 0))) || ((!false && !(w.r == 0)) || ((!false && !(w.o == 0)) || ((!false && decide (0 < w.g.length)) || ((!false && decide (0 < w.u.length)) || ((!false && decide (0 < w.v.length)) || ((!false && w.m) || ((!false && (w.h || (!(noT w.bf w.bt) || !(noT w.ef w.et)))) || (!(!false) && !(noT w.cf w.ct)))))))))))
    rw [posl w.v, posl w.g, posl w.u]
    simp only [Bool.not_true, Bool.false_and, Bool.false_or, Bool.not_false, Bool.true_and, Bool.not_not, Bool.or_false, Bool.or_assoc]
  · show (if vFieldW w 5 ≠ 0 then vFieldW w 5 else 0) = _
    have f5 : vFieldW w 5 = vCert w.cf w.ct := rfl
    rw [f5]
    by_cases a : vCert w.cf w.ct = 0
    · rw [if_neg (nn a), a]
    · have a' : vCert w.cf w.ct ≠ 0 := a
      rw [if_pos a']

theorem vRef_eq (w : Msg) : vRef w = vMsg w := by
  unfold vRef vMsg
  by_cases h0 : w.k < 1 ∨ 8 < w.k
  · rw [if_pos h0, if_pos (by rw [usedL_no h0]; rfl)]
  rw [if_neg h0]
  have hs : (usedL w.k).isNone = false := by
    rcases kinds_of h0 with h | h | h | h | h | h | h | h <;> rw [h] <;> rfl
  rw [if_neg (by rw [hs]; simp : ¬ (usedL w.k).isNone = true)]
  by_cases hp : isProc w.f = false ∨ isProc w.t = false
  · rw [if_pos hp, if_pos hp]
  rw [if_neg hp, if_neg hp]
  have bool_if : ∀ {u b : Bool} (x y : Int), b = !u → (u = true → x = y) → (if u = false then 2 else x) = (if b = true then 2 else y) := by
    intro u b x y h1 h2
    subst h1
    cases u
    · rfl
    · rw [if_neg (by simp), if_neg (by simp)]; exact h2 rfl
  rcases kinds_of h0 with h | h | h | h | h | h | h | h
  · obtain ⟨s1, s2⟩ := same1 w h
    refine bool_if _ _ s1 fun hu => ?_
    rw [if_pos (.inl h), s2 hu]
  · obtain ⟨s1, s2⟩ := same2 w h
    refine bool_if _ _ s1 fun hu => ?_
    rw [if_pos (.inr h), s2 hu]
  · obtain ⟨s1, s2⟩ := sameC w (.inl h)
    refine bool_if _ _ s1 fun hu => ?_
    rw [if_neg (by omega : ¬ (w.k = 1 ∨ w.k = 2)), s2, if_neg (by omega : ¬ w.k = 4), if_neg (by omega : ¬ (w.k = 5 ∧ vCh w.u ≠ 0)), if_neg (by omega : ¬ w.k = 5)]
    by_cases a : vCert w.cf w.ct = 0
    · rw [if_neg (nn a), a]
    · have a' : vCert w.cf w.ct ≠ 0 := a
      rw [if_pos a']
  · obtain ⟨s1, s2⟩ := same4 w h
    refine bool_if _ _ s1 fun hu => ?_
    rw [if_neg (by omega : ¬ (w.k = 1 ∨ w.k = 2)), s2, if_pos h]
  · obtain ⟨s1, s2⟩ := same5 w h
    refine bool_if _ _ s1 fun hu => ?_
    rw [if_neg (by omega : ¬ (w.k = 1 ∨ w.k = 2)), s2, if_neg (by omega : ¬ w.k = 4), if_pos h]
    by_cases b : vCh w.u = 0
    · rw [if_neg (fun h => h.2 b : ¬ (w.k = 5 ∧ vCh w.u ≠ 0)), if_neg (nn b)]
    · have b' : vCh w.u ≠ 0 := b
      rw [if_pos (⟨h, b⟩ : w.k = 5 ∧ vCh w.u ≠ 0), if_pos b']
  all_goals
    obtain ⟨s1, s2⟩ := sameC w (by omega)
    refine bool_if _ _ s1 fun hu => ?_
    rw [if_neg (by omega : ¬ (w.k = 1 ∨ w.k = 2)), s2, if_neg (by omega : ¬ w.k = 4), if_neg (by omega : ¬ (w.k = 5 ∧ vCh w.u ≠ 0)), if_neg (by omega : ¬ w.k = 5)]
    by_cases a : vCert w.cf w.ct = 0
    · rw [if_neg (nn a), a]
    · have a' : vCert w.cf w.ct ≠ 0 := a
      rw [if_pos a']

theorem k9 (w : Msg) (hw : okW w = true) : runF E (callOf L25) 1 9 [msgV w] [] = some ([.one (.int .i64 (vMsg w))], []) := by
  obtain ⟨h1, h2, h3, h4, h5, h6, h7, h8, h9⟩ := okW_of hw
  unfold msgV
  rw [e9, ← vRef_eq]
  have hM : okM w.cf w.ct w.bf w.bt w.ef w.et w.g w.u w.v = true := hw
  rw [hM, and2 h1 h2, h9, decide_eq_true (okLn_u h8).2]
  unfold vRef
  by_cases k0 : w.k < 1
  · rw [if_pos (.inl k0)]; exact ct (decide_eq_true k0) rfl
  refine cf (decide_eq_false k0) ?_
  by_cases k8 : 8 < w.k
  · rw [if_pos (.inr k8)]; exact ct (decide_eq_true k8) rfl
  refine cf (decide_eq_false k8) ?_
  rw [if_neg (by omega)]
  cases p1 : isProc w.f with
  | false => rfl
  | true =>
  cases p2 : isProc w.t with
  | false => rfl
  | true =>
  rw [if_neg (by simp)]
  refine cf rfl (cf rfl ?_)
  show cond (!(unusedW w)) _ _ = _
  cases hu : unusedW w with
  | false => rfl
  | true =>
  rw [if_neg (by simp)]
  refine cf rfl ?_
  by_cases k1 : w.k = 1
  · rw [if_pos (.inl k1)]; exact ct (beq_iff_eq.2 k1) (ct rfl rfl)
  refine cf (by simpa using k1) ?_
  by_cases k2 : w.k = 2
  · rw [if_pos (.inr k2)]; exact ct (beq_iff_eq.2 k2) (ct rfl rfl)
  refine cf (by simpa using k2) (ct rfl ?_)
  rw [if_neg (by omega)]
  by_cases a : vCert w.cf w.ct = 0
  · rw [if_neg (by simpa using a)]
    refine cf (by simpa using a) ?_
    by_cases k4 : w.k = 4
    · rw [if_pos k4]; exact ct (beq_iff_eq.2 k4) (ct rfl rfl)
    rw [if_neg k4]
    refine cf (by simpa using k4) ?_
    by_cases k5 : w.k = 5
    · refine ct (beq_iff_eq.2 k5) (ct rfl ?_)
      by_cases b : vCh w.u = 0
      · rw [if_neg (fun h => h.2 b), if_pos k5]
        exact cf (by simpa using b) (ct (beq_iff_eq.2 k5) (ct rfl rfl))
      · rw [if_pos ⟨k5, b⟩]
        exact ct (by simpa using b) (ct rfl rfl)
    · rw [if_neg (fun h => k5 h.1), if_neg k5]
      exact cf (by simpa using k5) (cf (by simpa using k5) rfl)
  · rw [if_pos a]
    exact ct (by simpa using a) (ct rfl rfl)

end Go.Proofs.YtejimgikldiajaaGreat

namespace Go.Proofs.YtejimgikldiajaaGreat

open Go.Abs

def BdAt {α : Type} (d : List (List Cell) → α × Int × Int) : Prop := ∀ x, okRd x = true → 0 ≤ (d x).2.1 ∧ (d x).2.1 ≤ x.length

theorem mstep_ok {α : Type} {z : α} {d : List (List Cell) → α × Int × Int} (hd : BdAt d) {b : List (List Cell)} {o e : Int} (h : okAt b o = true) : okAt b (rstep z d b o e).2.1 = true := by
  obtain ⟨h1, h2, h3⟩ := okAt_of h
  unfold rstep
  split
  · exact h
  · have := hd _ (okRd_drop h1 o.toNat)
    rw [List.length_drop] at this
    exact okAt_mk h1 (by dsimp only; omega) (by dsimp only; omega)

theorem rstep_of {α : Type} {z : α} {d : List (List Cell) → α × Int × Int} (hd : BdAt d) {b : List (List Cell)} {o e : Int} (h : okAt b o = true) {β : Type} {X : Option β} (R : α × Int × Int → Option β)
    (hX : X = cond (e != 0) (R (z, o, e)) (cond (inB o (b.length + 1)) (cond (okRd (dropN b (Int.toNat o))) (R ((d (dropN b (Int.toNat o))).1, IntKind.wrap .i64 (o + (d (dropN b (Int.toNat o))).2.1), (d (dropN b (Int.toNat o))).2.2)) none) none)) : X = R (rstep z d b o e) := by
  obtain ⟨h1, h2, h3⟩ := okAt_of h
  have hl := (okRd_of h1).2
  rw [hX, dropN_eq]
  unfold rstep
  by_cases he : e = 0
  · rw [if_neg (nn he)]
    have hb := hd _ (okRd_drop h1 o.toNat)
    rw [List.length_drop] at hb
    refine cf (by simpa using he) (ct (inB_of h2 (by omega)) (ct (okRd_drop h1 _) ?_))
    rw [wrap64 (n := o + (d (b.drop o.toNat)).2.1) (by omega) (by omega)]
  · have he' : e ≠ 0 := he
    rw [if_pos he']
    exact ct (by simpa using he) rfl

theorem udecF_nul : ∀ (k : Nat) (i acc : Int) (x : List (List Cell)), (udecF k i acc x).2.2 ≠ 0 → (udecF k i acc x).2.1 = 0
  | 0, _, _, _, _ => rfl
  | k + 1, i, acc, [], _ => rfl
  | k + 1, i, acc, r :: rs, h => by
    unfold udecF at h ⊢
    split
    · rfl
    · rename_i h1
      rw [if_neg h1] at h
      split
      · rename_i h2
        rw [if_pos h2] at h
        split
        · rfl
        · rename_i h3
          rw [if_neg h3] at h
          exact absurd rfl h
      · rename_i h2
        rw [if_neg h2] at h
        exact udecF_nul k _ _ rs h

theorem bd_u : BdAt udec := fun x hx => by
  by_cases h : (udec x).2.2 = 0
  · have := udec_bound (okRd_of hx).1 h
    omega
  · have := udecF_nul 10 0 0 x h
    show 0 ≤ (udecF 10 0 0 x).2.1 ∧ (udecF 10 0 0 x).2.1 ≤ x.length
    omega

theorem bd_c : BdAt decC := fun x hx => decC_bound hx

theorem decT_bound {x : List (List Cell)} (hx : okRd x = true) : 0 ≤ (decT x).2.2.1 ∧ (decT x).2.2.1 ≤ x.length := by
  have h1 := decC_bound hx
  have h2 := decC_bound (okRd_drop hx (decC x).2.1.toNat)
  rw [List.length_drop] at h2
  unfold decT
  simp only
  split
  · simp
  · split
    · simp
    · split
      · simp
      · dsimp only; omega

theorem bd_t : BdAt decT2 := fun x hx => decT_bound hx

theorem bd_p : BdAt decU4 := fun x hx => decU_bound hx

theorem bd_b : BdAt bdec := fun x hx => by
  unfold bdec
  split
  · simp
  · split
    · simp
    · dsimp only; omega

theorem k84 (x : List (List Cell)) : runF E (callOf L9) 1 84 [.one (.sl false 5 x)] [] = some ([.one (.bool (bdec x).1), .one (.int .i64 (bdec x).2.1), .one (.int .i64 (bdec x).2.2)], []) := by
  rw [e84, len0]
  unfold bdec
  by_cases h : x.length = 0
  · rw [if_pos h]; exact ct (decide_eq_true h) rfl
  · rw [if_neg h]
    have hi : inB 0 x.length = true := inB_of (by omega) (by omega)
    refine cf (decide_eq_false h) (ct hi ?_)
    by_cases h2 : 1 < nr (Abs.rowAt x 0) 0
    · rw [if_pos h2]; exact ct (decide_eq_true h2) rfl
    · rw [if_neg h2]; exact cf (decide_eq_false h2) (ct hi rfl)

theorem k90 (x : List (List Cell)) : runF E (callOf L84) 1 90 [.one (.sl false 5 x)] [] = some ([.one (.bool (bdec x).1), .one (.int .i64 (bdec x).2.1), .one (.int .i64 (bdec x).2.2)], []) := by
  rw [e90, len0]
  unfold bdec
  by_cases h : x.length = 0
  · rw [if_pos h]; exact ct (decide_eq_true h) rfl
  · rw [if_neg h]
    have hi : inB 0 x.length = true := inB_of (by omega) (by omega)
    refine cf (decide_eq_false h) (ct hi ?_)
    by_cases h2 : 1 < nr (Abs.rowAt x 0) 0
    · rw [if_pos h2]; exact ct (decide_eq_true h2) rfl
    · rw [if_neg h2]; exact cf (decide_eq_false h2) (ct hi rfl)

def rdV (b : List (List Cell)) (o e : Int) : Block := .var [.sl false 5 b, .int .i64 o, .int .i64 e]

theorem k75 (b : List (List Cell)) (o e : Int) (h : okAt b o = true) : runF E (callOf L90) 1 75 [.one (.ptr 0 0), .one (.fn 76 [])] [rdV b o e] =
    some ([.one (.int .u64 (rstep 0 udec b o e).1)], [rdV b (rstep 0 udec b o e).2.1 (rstep 0 udec b o e).2.2]) :=
  rstep_of (β := List AV × List Block) bd_u h (fun p => some ([AV.one (.int .u64 p.1)], [rdV b p.2.1 p.2.2])) (e75 0 b o e)

theorem k77 (b : List (List Cell)) (o e : Int) (h : okAt b o = true) : runF E (callOf L30) 1 77 [.one (.ptr 0 0), .one (.fn 78 [])] [rdV b o e] =
    some ([.one (.sl false 93 (rcfg b o e).1)], [rdV b (rcfg b o e).2.1 (rcfg b o e).2.2]) :=
  rstep_of (β := List AV × List Block) bd_c h (fun p => some ([AV.one (.sl false 93 p.1)], [rdV b p.2.1 p.2.2])) (e77 0 b o e)

theorem k80 (b : List (List Cell)) (o e : Int) (h : okAt b o = true) : runF E (callOf L77) 1 80 [.one (.ptr 0 0), .one (.fn 81 [])] [rdV b o e] =
    some ([.agg [.sl false 93 (rcert b o e).1.1, .sl false 93 (rcert b o e).1.2]], [rdV b (rcert b o e).2.1 (rcert b o e).2.2]) :=
  rstep_of (β := List AV × List Block) bd_t h (fun p => some ([AV.agg [.sl false 93 p.1.1, .sl false 93 p.1.2]], [rdV b p.2.1 p.2.2])) (e80 0 b o e)

theorem k117 (b : List (List Cell)) (o e : Int) (h : okAt b o = true) : runF E (callOf L80) 1 117 [.one (.ptr 0 0), .one (.fn 118 [])] [rdV b o e] =
    some ([.agg [.int .i64 (rupd b o e).1.1, .int .i64 (rupd b o e).1.2.1, .int .i64 (rupd b o e).1.2.2.1, .sl false 136 (rupd b o e).1.2.2.2]], [rdV b (rupd b o e).2.1 (rupd b o e).2.2]) :=
  rstep_of (β := List AV × List Block) bd_p h (fun p => some ([AV.agg [.int .i64 p.1.1, .int .i64 p.1.2.1, .int .i64 p.1.2.2.1, .sl false 136 p.1.2.2.2]], [rdV b p.2.1 p.2.2])) (e117 0 b o e)

theorem k83 (b : List (List Cell)) (o e : Int) (h : okAt b o = true) : runF E (callOf L117) 1 83 [.one (.ptr 0 0), .one (.fn 84 [])] [rdV b o e] =
    some ([.one (.bool (rbool b o e).1)], [rdV b (rbool b o e).2.1 (rbool b o e).2.2]) :=
  rstep_of (β := List AV × List Block) bd_b h (fun p => some ([AV.one (.bool p.1)], [rdV b p.2.1 p.2.2])) (e83 0 b o e)

theorem k31 (w : Bool) (k : Int) (b : List (List Cell)) (o e : Int) : runF E (callOf L75) 1 31 [.one (.ptr 0 0), .one (.bool w), .one (.int .i64 k)] [rdV b o e] = some ([], [rdV b o (failE w k e)]) := by
  unfold rdV failE
  rw [e31]
  cases w
  · rw [if_neg (by simp)]; rfl
  · by_cases he : e = 0
    · rw [if_pos ⟨rfl, he⟩]; exact ct rfl (ct (beq_iff_eq.2 he) rfl)
    · rw [if_neg fun h => he h.2]; exact ct rfl (cf (by simpa using he) rfl)

theorem rnumM_ok {b : List (List Cell)} {o e : Int} (h : okAt b o = true) : okAt b (rnumM b o e).2.1 = true := by
  have := mstep_ok (z := (0 : Int)) (e := e) bd_u h
  unfold rnumM
  split
  · exact this
  · split <;> exact this

theorem rstep_val {b : List (List Cell)} {o e : Int} (h : okAt b o = true) (he : (rstep 0 udec b o e).2.2 = 0) : 0 ≤ (rstep 0 udec b o e).1 := by
  unfold rstep at he ⊢
  split
  · exact Int.le_refl _
  · rename_i h0
    rw [if_neg h0] at he
    exact (udec_bound (okRd_of (okRd_drop (okAt_of h).1 _)).1 he).2.2

theorem k30 (b : List (List Cell)) (o e : Int) (h : okAt b o = true) : runF E (callOf L31) 1 30 [.one (.ptr 0 0)] [rdV b o e] =
    some ([.one (.int .i64 (rnumM b o e).1)], [rdV b (rnumM b o e).2.1 (rnumM b o e).2.2]) := by
  unfold rdV
  rw [e30]
  refine ct h ?_
  have hv := rstep_val (e := e) h
  unfold rnumM
  generalize rstep 0 udec b o e = p at hv ⊢
  by_cases he : p.2.2 = 0
  · have hv := hv he
    rw [if_neg (nn he)]
    by_cases hm : 2147483647 < p.1
    · rw [if_pos hm]
      have : failE (decide (p.1 > 2147483647)) 9 p.2.2 = 9 := by unfold failE; rw [if_pos ⟨decide_eq_true hm, he⟩]
      rw [this]
      rfl
    · rw [if_neg hm]
      have : failE (decide (p.1 > 2147483647)) 9 p.2.2 = p.2.2 := by unfold failE; rw [if_neg fun h => hm (of_decide_eq_true h.1)]
      rw [this]
      refine cf (by simpa using he) ?_
      rw [wrap64 (by omega) (by omega)]
  · have he' : p.2.2 ≠ 0 := he
    rw [if_pos he']
    have : failE (decide (p.1 > 2147483647)) 9 p.2.2 = p.2.2 := by unfold failE; rw [if_neg fun h => he h.2]
    rw [this]
    exact ct (by simpa using he) rfl

theorem rnumM_bd {b : List (List Cell)} {o e : Int} (h : okAt b o = true) : 0 ≤ (rnumM b o e).1 ∧ (rnumM b o e).1 ≤ 2147483647 := by
  have hv := rstep_val (e := e) h
  unfold rnumM
  split
  · simp
  · rename_i h1
    split
    · simp
    · have := hv (Decidable.not_not.1 h1)
      omega

theorem fit3 {k : Int} {e : Int} {n : Nat} {c : Int} (hc : c = n) (he : failE (decide (k > c)) 3 e = 0) : k ≤ n := by
  unfold failE at he
  split at he
  · cases he
  · rename_i h
    by_cases hk : k > c
    · exact absurd ⟨decide_eq_true hk, he⟩ h
    · omega

theorem l79 (b : List (List Cell)) (k : Nat) : ∀ (d i : Nat) (o e : Int) (acc : List (List Cell)), i + d = k → okAt b o = true → acc.length ≤ i → (e = 0 → k ≤ 48) →
    ∃ m, goF E (callOf L83) F79 1 m P79_0 (M79_0 k acc i b o e) = some ([.one (.sl false 96 (rstF b d o e acc).1)], [rdV b (rstF b d o e acc).2.1 (rstF b d o e acc).2.2])
  | 0, i, o, e, acc, hi, hb, ha, hk => by
    refine ⟨1, ?_⟩
    rw [e79_0, rstF]
    exact cf (decide_eq_false (by omega)) rfl
  | d + 1, i, o, e, acc, hi, hb, ha, hk => by
    by_cases he : e = 0
    · have hk48 := hk he
      have hb2 := mstep_ok (z := ((0, 0, 0, []) : Int × Int × Int × List (List Cell))) (e := e) bd_p hb
      obtain ⟨m, hm⟩ := l79 b k d (i + 1) (rupd b o e).2.1 (rupd b o e).2.2 (acc ++ [urow (rupd b o e).1.1 (rupd b o e).1.2.1 (rupd b o e).1.2.2.1 (rupd b o e).1.2.2.2]) (by omega) hb2 (by simp; omega) fun _ => hk48
      refine ⟨m + 1, ?_⟩
      rw [e79_0, rstF, if_neg (nn he), nat_wrap (n := k) (by omega) (by omega)]
      exact ct (decide_eq_true (by omega)) (ct (beq_iff_eq.2 he) (ct hb (ct (fits_of (by simp; omega)) hm)))
    · have he' : e ≠ 0 := he
      refine ⟨1, ?_⟩
      rw [e79_0, rstF, if_pos he']
      exact ct (decide_eq_true (by omega)) (cf (by simpa using he) rfl)

theorem k79 (b : List (List Cell)) (o e : Int) (h : okAt b o = true) : ∃ m, runF E (callOf L83) m 79 [.one (.ptr 0 0)] [rdV b o e] =
    some ([.one (.sl false 96 (rst b o e).1)], [rdV b (rst b o e).2.1 (rst b o e).2.2]) := by
  have hn := rnumM_bd (e := e) h
  obtain ⟨m, hm⟩ := l79 b (rnumM b o e).1.toNat (rnumM b o e).1.toNat 0 (rnumM b o e).2.1 (failE (decide (48 < (rnumM b o e).1)) 3 (rnumM b o e).2.2) [] (by omega) (rnumM_ok h) (by simp) (fun he => by
    have := fit3 (k := (rnumM b o e).1) (c := 48) (n := 48) rfl he
    omega)
  refine ⟨m + 1, ?_⟩
  unfold rdV
  rw [e79]
  refine ct h ?_
  have e1 : (((rnumM b o e).1.toNat : Nat) : Int) = (rnumM b o e).1 := Int.toNat_of_nonneg hn.1
  rw [e1] at hm
  exact hm

theorem l82 (b : List (List Cell)) (k : Nat) : ∀ (d i : Nat) (o e : Int) (acc : List (List Cell)), i + d = k → okAt b o = true → acc.length ≤ i → (e = 0 → k ≤ 100) →
    ∃ m, goF E (callOf L79) F82 1 m P82_0 (M82_0 k acc i b o e) = some ([.one (.sl false 103 (rvcF b d o e acc).1)], [rdV b (rvcF b d o e acc).2.1 (rvcF b d o e acc).2.2])
  | 0, i, o, e, acc, hi, hb, ha, hk => by
    refine ⟨1, ?_⟩
    rw [e82_0, rvcF]
    exact cf (decide_eq_false (by omega)) rfl
  | d + 1, i, o, e, acc, hi, hb, ha, hk => by
    by_cases he : e = 0
    · have hk1 := hk he
      have hb1 := rnumM_ok (e := e) hb
      have hb2 := rnumM_ok (e := (rnumM b o e).2.2) hb1
      obtain ⟨m, hm⟩ := l82 b k d (i + 1) (rnumM b (rnumM b o e).2.1 (rnumM b o e).2.2).2.1 (rnumM b (rnumM b o e).2.1 (rnumM b o e).2.2).2.2 (acc ++ [ent (rnumM b o e).1 (rnumM b (rnumM b o e).2.1 (rnumM b o e).2.2).1]) (by omega) hb2 (by simp; omega) fun _ => hk1
      refine ⟨m + 1, ?_⟩
      rw [e82_0, rvcF, if_neg (nn he), nat_wrap (n := k) (by omega) (by omega)]
      exact ct (decide_eq_true (by omega)) (ct (beq_iff_eq.2 he) (ct hb (ct hb1 (ct (fits_of (by simp; omega)) hm))))
    · have he' : e ≠ 0 := he
      refine ⟨1, ?_⟩
      rw [e82_0, rvcF, if_pos he']
      exact ct (decide_eq_true (by omega)) (cf (by simpa using he) rfl)

theorem k82 (b : List (List Cell)) (o e : Int) (h : okAt b o = true) : ∃ m, runF E (callOf L79) m 82 [.one (.ptr 0 0)] [rdV b o e] =
    some ([.one (.sl false 103 (rvc b o e).1)], [rdV b (rvc b o e).2.1 (rvc b o e).2.2]) := by
  have hn := rnumM_bd (e := e) h
  obtain ⟨m, hm⟩ := l82 b (rnumM b o e).1.toNat (rnumM b o e).1.toNat 0 (rnumM b o e).2.1 (failE (decide (100 < (rnumM b o e).1)) 3 (rnumM b o e).2.2) [] (by omega) (rnumM_ok h) (by simp) (fun he => by
    have := fit3 (k := (rnumM b o e).1) (c := 100) (n := 100) rfl he
    omega)
  refine ⟨m + 1, ?_⟩
  unfold rdV
  rw [e82]
  refine ct h ?_
  have e1 : (((rnumM b o e).1.toNat : Nat) : Int) = (rnumM b o e).1 := Int.toNat_of_nonneg hn.1
  rw [e1] at hm
  exact hm

def msgB (w : Msg) : Block := .var [.int .i64 w.k, .int .i64 w.f, .int .i64 w.t, .int .i64 w.p, .int .i64 w.n, .int .i64 w.r, .int .i64 w.o, .sl false 93 w.cf, .sl false 93 w.ct, .sl false 93 w.bf, .sl false 93 w.bt, .bool w.h, .sl false 93 w.ef, .sl false 93 w.et, .sl false 93 w.g, .sl false 96 w.u, .sl false 103 w.v, .bool w.m]

theorem k32 (b : List (List Cell)) (o e f : Int) (w : Msg) (h : okAt b o = true) : runF E (callOf L82) 1 32 [.one (.ptr 0 0), .one (.ptr 1 0), .one (.int .i64 f)] [rdV b o e, msgB w] =
    some ([], [rdV b (rdF b o e w f).2.1 (rdF b o e w f).2.2, msgB (rdF b o e w f).1]) := by
  unfold rdV msgB
  rw [e32, h, rnumM_ok h]
  unfold rdF
  simp only [ci (bint f _), cond_true]
  by_cases c0 : f = 0
  · simp only [if_pos c0]
  simp only [if_neg c0]
  by_cases c1 : f = 1
  · simp only [if_pos c1]
  simp only [if_neg c1]
  by_cases c2 : f = 2
  · simp only [if_pos c2]
  simp only [if_neg c2]
  by_cases c3 : f = 3
  · simp only [if_pos c3]
  simp only [if_neg c3]
  by_cases c4 : f = 4
  · simp only [if_pos c4]
  simp only [if_neg c4]
  by_cases c5 : f = 5
  · simp only [if_pos c5]
  simp only [if_neg c5]
  by_cases c6 : f = 6
  · simp only [if_pos c6]
  simp only [if_neg c6]
  by_cases c7 : f = 7
  · simp only [if_pos c7]
  simp only [if_neg c7]
  by_cases c8 : f = 8
  · simp only [if_pos c8]
  simp only [if_neg c8]
  by_cases c9 : f = 9
  · simp only [if_pos c9]
    by_cases hh : w.h = true
    · simp only [if_pos hh]
      exact ct hh rfl
    · simp only [if_neg hh]
      exact cf (by simpa using hh) rfl
  simp only [if_neg c9]
  by_cases c10 : f = 10
  · simp only [if_pos c10]
  simp only [if_neg c10]

theorem rcfg_ok {b : List (List Cell)} {o e : Int} (h : okAt b o = true) : okRows (rcfg b o e).1 = true := by
  unfold rcfg rstep
  split
  · rfl
  · exact decC_rows (okRd_drop (okAt_of h).1 _)

theorem rcert_ok {b : List (List Cell)} {o e : Int} (h : okAt b o = true) : okRows (rcert b o e).1.1 = true ∧ okRows (rcert b o e).1.2 = true := by
  unfold rcert rstep
  split
  · exact ⟨rfl, rfl⟩
  · exact ok2_of (decT_rows (okRd_drop (okAt_of h).1 _))

theorem rupd_len {b : List (List Cell)} {o e : Int} (h : okAt b o = true) : (rupd b o e).1.2.2.2.length ≤ 4 := by
  unfold rupd rstep
  split
  · simp
  · exact decU_len _ (okRd_drop (okAt_of h).1 _)

theorem rstF_ok (b : List (List Cell)) (k : Nat) : ∀ (d i : Nat) (o e : Int) (acc : List (List Cell)), i + d = k → okAt b o = true → acc.length ≤ i → i ≤ 48 → (e = 0 → k ≤ 48) → shortRowsU acc = true → okRowsU (rstF b d o e acc).1 = true ∧ okAt b (rstF b d o e acc).2.1 = true
  | 0, i, o, e, acc, hi, hb, ha, h48, hk, hs => ⟨okRows_mkU (show acc.length ≤ 1000 by omega) hs, hb⟩
  | d + 1, i, o, e, acc, hi, hb, ha, h48, hk, hs => by
    rw [rstF]
    by_cases he : e = 0
    · rw [if_neg (nn he)]
      have hk48 := hk he
      have hl := rupd_len (e := e) hb
      refine rstF_ok b k d (i + 1) _ _ _ (by omega) (mstep_ok bd_p hb) (by simp; omega) (by omega) (fun _ => hk48) ?_
      unfold shortRowsU at hs ⊢
      rw [List.all_append, hs]
      simp only [List.all_cons, List.all_nil, Bool.and_true, Bool.true_and]
      unfold shortRowU
      have e1 : nl (urow (rupd b o e).1.1 (rupd b o e).1.2.1 (rupd b o e).1.2.2.1 (rupd b o e).1.2.2.2) 3 = (rupd b o e).1.2.2.2 := rfl
      rw [e1]
      exact decide_eq_true (by omega)
    · have he' : e ≠ 0 := he
      rw [if_pos he']
      exact ⟨okRows_mkU (show acc.length ≤ 1000 by omega) hs, hb⟩

theorem rst_ok {b : List (List Cell)} {o e : Int} (h : okAt b o = true) : okRowsU (rst b o e).1 = true ∧ okAt b (rst b o e).2.1 = true := by
  have hn := rnumM_bd (e := e) h
  exact rstF_ok b (rnumM b o e).1.toNat _ 0 _ _ [] (by omega) (rnumM_ok h) (by simp) (by omega) (fun he => by
    have := fit3 (k := (rnumM b o e).1) (c := 48) (n := 48) rfl he
    omega) rfl

theorem rvcF_ok (b : List (List Cell)) (k : Nat) : ∀ (d i : Nat) (o e : Int) (acc : List (List Cell)), i + d = k → okAt b o = true → acc.length ≤ i → i ≤ 100 → (e = 0 → k ≤ 100) → okLn (rvcF b d o e acc).1 = true ∧ okAt b (rvcF b d o e acc).2.1 = true
  | 0, i, o, e, acc, hi, hb, ha, h48, hk => ⟨okLn_mk (show acc.length ≤ 1000 by omega), hb⟩
  | d + 1, i, o, e, acc, hi, hb, ha, h48, hk => by
    rw [rvcF]
    by_cases he : e = 0
    · rw [if_neg (nn he)]
      have hk1 := hk he
      exact rvcF_ok b k d (i + 1) _ _ _ (by omega) (rnumM_ok (rnumM_ok hb)) (by simp; omega) (by omega) fun _ => hk1
    · have he' : e ≠ 0 := he
      rw [if_pos he']
      exact ⟨okLn_mk (show acc.length ≤ 1000 by omega), hb⟩

theorem rvc_ok {b : List (List Cell)} {o e : Int} (h : okAt b o = true) : okLn (rvc b o e).1 = true ∧ okAt b (rvc b o e).2.1 = true := by
  have hn := rnumM_bd (e := e) h
  exact rvcF_ok b (rnumM b o e).1.toNat _ 0 _ _ [] (by omega) (rnumM_ok h) (by simp) (by omega) (fun he => by
    have := fit3 (k := (rnumM b o e).1) (c := 100) (n := 100) rfl he
    omega)

theorem okW_mk {w : Msg} (h1 : okRows w.cf = true) (h2 : okRows w.ct = true) (h3 : okRows w.bf = true) (h4 : okRows w.bt = true) (h5 : okRows w.ef = true) (h6 : okRows w.et = true) (h7 : okRows w.g = true) (h8 : okRowsU w.u = true) (h9 : okLn w.v = true) : okW w = true := by
  unfold okW okM
  rw [h1, h2, h3, h4, h5, h6, h7, h8, h9]
  rfl

theorem rdF_ok {b : List (List Cell)} {o e f : Int} {w : Msg} (h : okAt b o = true) (hw : okW w = true) : okAt b (rdF b o e w f).2.1 = true ∧ okW (rdF b o e w f).1 = true := by
  obtain ⟨h1, h2, h3, h4, h5, h6, h7, h8, h9⟩ := okW_of hw
  unfold rdF
  by_cases c0 : f = 0
  · rw [if_pos c0]; exact ⟨rnumM_ok (rnumM_ok h), hw⟩
  rw [if_neg c0]
  by_cases c1 : f = 1
  · rw [if_pos c1]; exact ⟨rnumM_ok h, hw⟩
  rw [if_neg c1]
  by_cases c2 : f = 2
  · rw [if_pos c2]; exact ⟨rnumM_ok h, hw⟩
  rw [if_neg c2]
  by_cases c3 : f = 3
  · rw [if_pos c3]; exact ⟨mstep_ok bd_c h, okW_mk h1 h2 h3 h4 h5 h6 (rcfg_ok h) h8 h9⟩
  rw [if_neg c3]
  by_cases c4 : f = 4
  · rw [if_pos c4]; exact ⟨(rst_ok h).2, okW_mk h1 h2 h3 h4 h5 h6 h7 (rst_ok h).1 h9⟩
  rw [if_neg c4]
  by_cases c5 : f = 5
  · rw [if_pos c5]; exact ⟨mstep_ok bd_t h, okW_mk (rcert_ok h).1 (rcert_ok h).2 h3 h4 h5 h6 h7 h8 h9⟩
  rw [if_neg c5]
  by_cases c6 : f = 6
  · rw [if_pos c6]; exact ⟨(rvc_ok h).2, okW_mk h1 h2 h3 h4 h5 h6 h7 h8 (rvc_ok h).1⟩
  rw [if_neg c6]
  by_cases c7 : f = 7
  · rw [if_pos c7]; exact ⟨mstep_ok bd_b h, hw⟩
  rw [if_neg c7]
  by_cases c8 : f = 8
  · rw [if_pos c8]; exact ⟨mstep_ok bd_b h, hw⟩
  rw [if_neg c8]
  by_cases c9 : f = 9
  · rw [if_pos c9]
    by_cases hh : w.h = true
    · rw [if_pos hh]; exact ⟨mstep_ok bd_t h, okW_mk h1 h2 (rcert_ok h).1 (rcert_ok h).2 h5 h6 h7 h8 h9⟩
    · rw [if_neg hh]; exact ⟨h, hw⟩
  rw [if_neg c9]
  by_cases c10 : f = 10
  · rw [if_pos c10]; exact ⟨mstep_ok bd_t h, okW_mk h1 h2 h3 h4 (rcert_ok h).1 (rcert_ok h).2 h7 h8 h9⟩
  rw [if_neg c10]
  exact ⟨h, hw⟩

theorem l10 (b l : List (List Cell)) (hl : l.length ≤ 7) : ∀ (d i : Nat) (o e : Int) (w : Msg), i + d = l.length → okAt b o = true → okW w = true →
    ∃ m, goF E (callOf L32) F10 0 m P10_0 (M10_0 l l.length i 0 0 0 0 0 0 0 [] [] [] [] false [] [] [] [] [] false b o e w.k w.f w.t w.p w.n w.r w.o w.cf w.ct w.bf w.bt w.h w.ef w.et w.g w.u w.v w.m) =
      some ([msgV (finM (rdAll b (l.drop i) o e w)).1, .one (.int .i64 (finM (rdAll b (l.drop i) o e w)).2.1), .one (.int .i64 (finM (rdAll b (l.drop i) o e w)).2.2)], [])
  | 0, i, o, e, w, hi, hb, hw => by
    refine ⟨1, ?_⟩
    have : l.drop i = [] := List.drop_eq_nil_of_le (by omega)
    have hM : okM w.cf w.ct w.bf w.bt w.ef w.et w.g w.u w.v = true := hw
    rw [e10_0, this, rdAll, hM]
    refine cf (decide_eq_false (by omega)) ?_
    unfold finM
    by_cases he : e = 0
    · rw [if_neg (nn he)]
      refine ct (beq_iff_eq.2 he) (ct rfl ?_)
      show cond (vMsg w != 0) _ _ = _
      by_cases hv : vMsg w = 0
      · rw [if_neg (nn hv)]
        refine cf (by simpa using hv) ?_
        subst he
        rfl
      · have hv' : vMsg w ≠ 0 := hv
        rw [if_pos hv']
        exact ct (by simpa using hv) rfl
    · have he' : e ≠ 0 := he
      rw [if_pos he']
      exact cf (by simpa using he) (ct (by simpa using he) rfl)
  | d + 1, i, o, e, w, hi, hb, hw => by
    have hi' : i < l.length := by omega
    obtain ⟨g1, g2⟩ := rdF_ok (e := e) (f := nr (Abs.rowAt l i) 0) hb hw
    obtain ⟨m, hm⟩ := l10 b l hl d (i + 1) (rdF b o e w (nr (Abs.rowAt l i) 0)).2.1 (rdF b o e w (nr (Abs.rowAt l i) 0)).2.2 (rdF b o e w (nr (Abs.rowAt l i) 0)).1 (by omega) g1 g2
    refine ⟨m + 1, ?_⟩
    rw [e10_0, drop_cons l i hi', rdAll, Int.toNat_natCast, nat_wrap (n := l.length) hi' (by omega)]
    exact ct (decide_eq_true (by omega)) (ct (inB_nat' hi') (ct hb hm))

theorem notSome {α : Type} (x : Option α) : (!x.isSome) = x.isNone := by cases x <;> rfl

theorem k10 (x : List (List Cell)) (hx : okRd x = true) : ∃ m, runF E (callOf L32) m 10 [.one (.sl false 5 x)] [] =
    some ([msgV (decM x).1, .one (.int .i64 (decM x).2.1), .one (.int .i64 (decM x).2.2)], []) := by
  have h0 : okAt x 0 = true := okAt_mk hx (Int.le_refl _) (by omega)
  have h1 := rnumM_ok (e := 0) h0
  have h2 := rnumM_ok (e := failE (usedL (rnumM x 0 0).1).isNone 10 (rnumM x 0 0).2.2) h1
  have h3 := rnumM_ok (e := (rnumM x (rnumM x 0 0).2.1 (failE (usedL (rnumM x 0 0).1).isNone 10 (rnumM x 0 0).2.2)).2.2) h2
  obtain ⟨m, hm⟩ := l10 x (usedR (rnumM x 0 0).1) (usedR_len _) (usedR (rnumM x 0 0).1).length 0 _ (rnumM x (rnumM x (rnumM x 0 0).2.1 (failE (usedL (rnumM x 0 0).1).isNone 10 (rnumM x 0 0).2.2)).2.1 (rnumM x (rnumM x 0 0).2.1 (failE (usedL (rnumM x 0 0).1).isNone 10 (rnumM x 0 0).2.2)).2.2).2.2
    { noMsg with k := (rnumM x 0 0).1, f := (rnumM x (rnumM x 0 0).2.1 (failE (usedL (rnumM x 0 0).1).isNone 10 (rnumM x 0 0).2.2)).1, t := (rnumM x (rnumM x (rnumM x 0 0).2.1 (failE (usedL (rnumM x 0 0).1).isNone 10 (rnumM x 0 0).2.2)).2.1 (rnumM x (rnumM x 0 0).2.1 (failE (usedL (rnumM x 0 0).1).isNone 10 (rnumM x 0 0).2.2)).2.2).1 } (by omega) h3 rfl
  refine ⟨m + 1, ?_⟩
  rw [e10, notSome]
  exact ct h0 (ct h1 (ct h2 hm))

end Go.Proofs.YtejimgikldiajaaGreat

namespace Go.Proofs.YtejimgikldiajaaGreat

open Go.Abs

def BdOk {α : Type} (d : List (List Cell) → α × Int × Int) : Prop := ∀ x, okRd x = true → (d x).2.2 = 0 → 0 ≤ (d x).2.1 ∧ (d x).2.1 ≤ x.length

theorem bd_in {α : Type} {d : List (List Cell) → α × Int × Int} (hd : BdOk d) {x : List (List Cell)} (hx : okRd x = true) {a : Int} (h0 : 0 ≤ a) (h1 : a ≤ x.length) (he : (d (x.drop a.toNat)).2.2 = 0) :
    0 ≤ (d (x.drop a.toNat)).2.1 ∧ a + (d (x.drop a.toNat)).2.1 ≤ x.length ∧ IntKind.wrap .i64 (a + (d (x.drop a.toNat)).2.1) = a + (d (x.drop a.toNat)).2.1 := by
  have hl := (okRd_of hx).2
  have := hd _ (okRd_drop hx a.toNat) he
  rw [List.length_drop] at this
  exact ⟨this.1, by omega, wrap64 (by omega) (by omega)⟩

theorem ok_t : BdOk decT2 := fun x hx _ => bd_t x hx

theorem ok_c : BdOk decC := fun x hx _ => bd_c x hx

theorem ok_b : BdOk bdec := fun x hx _ => bd_b x hx

theorem ok_n : BdOk rnum2 := fun x hx h => by
  have := rnum2_bound (okRd_of hx).1 h
  omega

theorem decUs_at (x : List (List Cell)) (hx : okRd x = true) : ∀ (k : Nat) (o : Int) (acc : List (List Cell)), 0 ≤ o → o ≤ x.length → (decUs x k o acc).2.2 = 0 → 0 ≤ (decUs x k o acc).2.1 ∧ (decUs x k o acc).2.1 ≤ x.length
  | 0, o, acc, h0, h1, _ => ⟨h0, h1⟩
  | k + 1, o, acc, h0, h1, h => by
    simp only [decUs] at h ⊢
    have hb := decU_bound (okRd_drop hx o.toNat)
    rw [List.length_drop] at hb
    by_cases he : (decU (x.drop o.toNat)).2.2.2.2.2 = 0
    · rw [if_neg (nn he)] at h ⊢
      exact decUs_at x hx k _ _ (by omega) (by omega) h
    · have he' : (decU (x.drop o.toNat)).2.2.2.2.2 ≠ 0 := he
      rw [if_pos he'] at h
      exact absurd h he

theorem ok_l : BdOk decL := fun x hx h => by
  unfold decL at h ⊢
  by_cases h1 : (rnum2 x).2.2 = 0
  · rw [if_neg (nn h1)] at h ⊢
    by_cases h2 : 48 < (rnum2 x).1
    · rw [if_pos h2] at h; cases h
    · rw [if_neg h2] at h ⊢
      have hb := rnum2_bound (okRd_of hx).1 h1
      exact decUs_at x hx _ _ _ (by omega) (by omega) h
  · have h1' : (rnum2 x).2.2 ≠ 0 := h1
    rw [if_pos h1'] at h
    exact absurd h h1

def resM (p : Msg × Int × Int) : Option (List AV × List Block) := some ([msgV p.1, .one (.int .i64 p.2.1), .one (.int .i64 p.2.2)], [])

theorem cne {α : Type} {v : Int} {x y r : α} (h1 : v ≠ 0 → x = r) (h2 : v = 0 → y = r) : cond (v != 0) x y = r := by
  by_cases h : v = 0
  · rw [show (v != 0) = false by simpa using h]; exact h2 h
  · rw [show (v != 0) = true by simpa using h]; exact h1 h

theorem k88 (w : Msg) (x : List (List Cell)) (hx : okRd x = true) : runF E (callOf L10) 1 88 [msgV w, .one (.sl false 5 x)] [] = resM (rbW w x) := by
  have hb := bd_b x hx
  unfold msgV
  rw [e88, hx]
  simp only [dropN_eq]
  refine ct rfl (cne (fun h => ?_) fun h => ?_)
  · unfold rbW
    rw [if_pos h]
    rfl
  have hd := okRd_drop hx (bdec x).2.1.toNat
  have hi : inB (bdec x).2.1 (x.length + 1) = true := inB_of (by omega) (by omega)
  refine cs (fun hh => ?_) fun hh => ?_
  · refine ct hi (ct hd (cne (fun h2 => ?_) fun h2 => ?_))
    · unfold rbW
      rw [if_neg (nn h), if_pos hh, if_pos (show (decT2 (x.drop (bdec x).2.1.toNat)).2.2 ≠ 0 from h2)]
      rfl
    · obtain ⟨q1, q2, q3⟩ := bd_in ok_t hx hb.1 hb.2 h2
      have q3' : IntKind.wrap .i64 ((bdec x).2.1 + (decT (x.drop (bdec x).2.1.toNat)).2.2.1) = (bdec x).2.1 + (decT2 (x.drop (bdec x).2.1.toNat)).2.1 := q3
      rw [q3']
      refine ct (inB_of (by omega) (by omega)) (ct (okRd_drop hx _) (cne (fun h3 => ?_) fun h3 => ?_))
      · unfold rbW
        rw [if_neg (nn h), if_pos hh, if_neg (nn (show (decT2 (x.drop (bdec x).2.1.toNat)).2.2 = 0 from h2)), if_pos (show (decT2 (x.drop ((bdec x).2.1 + (decT2 (x.drop (bdec x).2.1.toNat)).2.1).toNat)).2.2 ≠ 0 from h3)]
        rfl
      · obtain ⟨r1, r2, r3⟩ := bd_in ok_t hx (a := (bdec x).2.1 + (decT2 (x.drop (bdec x).2.1.toNat)).2.1) (by omega) q2 h3
        have r3' : IntKind.wrap .i64 ((bdec x).2.1 + (decT2 (x.drop (bdec x).2.1.toNat)).2.1 + (decT (x.drop ((bdec x).2.1 + (decT2 (x.drop (bdec x).2.1.toNat)).2.1).toNat)).2.2.1) = (bdec x).2.1 + (decT2 (x.drop (bdec x).2.1.toNat)).2.1 + (decT2 (x.drop ((bdec x).2.1 + (decT2 (x.drop (bdec x).2.1.toNat)).2.1).toNat)).2.1 := r3
        rw [r3']
        unfold rbW
        rw [if_neg (nn h), if_pos hh, if_neg (nn (show (decT2 (x.drop (bdec x).2.1.toNat)).2.2 = 0 from h2)), if_neg (nn (show (decT2 (x.drop ((bdec x).2.1 + (decT2 (x.drop (bdec x).2.1.toNat)).2.1).toNat)).2.2 = 0 from h3))]
        rfl
  · have hh' : ¬ (bdec x).1 = true := by rw [hh]; simp
    refine ct hi (ct hd (cne (fun h2 => ?_) fun h2 => ?_))
    · unfold rbW
      rw [if_neg (nn h), if_neg hh', if_pos (show (decT2 (x.drop (bdec x).2.1.toNat)).2.2 ≠ 0 from h2)]
      rfl
    · obtain ⟨q1, q2, q3⟩ := bd_in ok_t hx hb.1 hb.2 h2
      have q3' : IntKind.wrap .i64 ((bdec x).2.1 + (decT (x.drop (bdec x).2.1.toNat)).2.2.1) = (bdec x).2.1 + (decT2 (x.drop (bdec x).2.1.toNat)).2.1 := q3
      rw [q3']
      unfold rbW
      rw [if_neg (nn h), if_neg hh', if_neg (nn (show (decT2 (x.drop (bdec x).2.1.toNat)).2.2 = 0 from h2))]
      rfl

theorem rbW_at (w : Msg) {x : List (List Cell)} (hx : okRd x = true) : 0 ≤ (rbW w x).2.1 ∧ (rbW w x).2.1 ≤ x.length := by
  have hb := bd_b x hx
  unfold rbW
  by_cases h : (bdec x).2.2 = 0
  · rw [if_neg (nn h)]
    by_cases hh : (bdec x).1 = true
    · rw [if_pos hh]
      by_cases h2 : (decT2 (x.drop (bdec x).2.1.toNat)).2.2 = 0
      · rw [if_neg (nn h2)]
        obtain ⟨q1, q2, _⟩ := bd_in ok_t hx hb.1 hb.2 h2
        by_cases h3 : (decT2 (x.drop ((bdec x).2.1 + (decT2 (x.drop (bdec x).2.1.toNat)).2.1).toNat)).2.2 = 0
        · rw [if_neg (nn h3)]
          obtain ⟨r1, r2, _⟩ := bd_in ok_t hx (a := (bdec x).2.1 + (decT2 (x.drop (bdec x).2.1.toNat)).2.1) (by omega) q2 h3
          exact ⟨by dsimp only; omega, r2⟩
        · rw [if_pos (show _ ≠ _ from h3)]; exact ⟨Int.le_refl _, by dsimp only; omega⟩
      · rw [if_pos (show _ ≠ _ from h2)]; exact ⟨Int.le_refl _, by dsimp only; omega⟩
    · rw [if_neg hh]
      by_cases h2 : (decT2 (x.drop (bdec x).2.1.toNat)).2.2 = 0
      · rw [if_neg (nn h2)]
        obtain ⟨q1, q2, _⟩ := bd_in ok_t hx hb.1 hb.2 h2
        exact ⟨by dsimp only; omega, q2⟩
      · rw [if_pos (show _ ≠ _ from h2)]; exact ⟨Int.le_refl _, by dsimp only; omega⟩
  · rw [if_pos (show _ ≠ _ from h)]; exact ⟨Int.le_refl _, by dsimp only; omega⟩

def msgN (k f t p n r o : Int) (h m : Bool) : AV := .agg [.int .i64 k, .int .i64 f, .int .i64 t, .int .i64 p, .int .i64 n, .int .i64 r, .int .i64 o, .nils, .nils, .nils, .nils, .bool h, .nils, .nils, .nils, .nils, .nils, .bool m]

def msg0 (k f t p n r o : Int) (h m : Bool) : Msg := ⟨k, f, t, p, n, r, o, [], [], [], [], h, [], [], [], [], [], m⟩

theorem rxB_tree (w : Msg) (x : List (List Cell)) (hx : okRd x = true) (a : Int) (h0 : 0 ≤ a) (h1 : a ≤ x.length) (T : Bool) (hT : T = (w.k == 1)) :
    cond (inB a (x.length + 1)) (cond (okRd (x.drop a.toNat)) (cond ((decC (x.drop a.toNat)).2.2 != 0) (resM (w, 0, (decC (x.drop a.toNat)).2.2))
      (cond (inB (IntKind.wrap .i64 (a + (decC (x.drop a.toNat)).2.1)) (x.length + 1)) (cond (okRd (x.drop (IntKind.wrap .i64 (a + (decC (x.drop a.toNat)).2.1)).toNat))
        (cond ((decL (x.drop (IntKind.wrap .i64 (a + (decC (x.drop a.toNat)).2.1)).toNat)).2.2 != 0) (resM (w, 0, (decL (x.drop (IntKind.wrap .i64 (a + (decC (x.drop a.toNat)).2.1)).toNat)).2.2))
          (cond T (resM ({ w with g := (decC (x.drop a.toNat)).1, u := (decL (x.drop (IntKind.wrap .i64 (a + (decC (x.drop a.toNat)).2.1)).toNat)).1 },
              IntKind.wrap .i64 (IntKind.wrap .i64 (a + (decC (x.drop a.toNat)).2.1) + (decL (x.drop (IntKind.wrap .i64 (a + (decC (x.drop a.toNat)).2.1)).toNat)).2.1), 0))
            (cond (inB (IntKind.wrap .i64 (IntKind.wrap .i64 (a + (decC (x.drop a.toNat)).2.1) + (decL (x.drop (IntKind.wrap .i64 (a + (decC (x.drop a.toNat)).2.1)).toNat)).2.1)) (x.length + 1))
              (cond (okRd (x.drop (IntKind.wrap .i64 (IntKind.wrap .i64 (a + (decC (x.drop a.toNat)).2.1) + (decL (x.drop (IntKind.wrap .i64 (a + (decC (x.drop a.toNat)).2.1)).toNat)).2.1)).toNat))
                (some ([msgV (rbW { w with g := (decC (x.drop a.toNat)).1, u := (decL (x.drop (IntKind.wrap .i64 (a + (decC (x.drop a.toNat)).2.1)).toNat)).1 } (x.drop (IntKind.wrap .i64 (IntKind.wrap .i64 (a + (decC (x.drop a.toNat)).2.1) + (decL (x.drop (IntKind.wrap .i64 (a + (decC (x.drop a.toNat)).2.1)).toNat)).2.1)).toNat)).1,
                  .one (.int .i64 (IntKind.wrap .i64 (IntKind.wrap .i64 (IntKind.wrap .i64 (a + (decC (x.drop a.toNat)).2.1) + (decL (x.drop (IntKind.wrap .i64 (a + (decC (x.drop a.toNat)).2.1)).toNat)).2.1) + (rbW { w with g := (decC (x.drop a.toNat)).1, u := (decL (x.drop (IntKind.wrap .i64 (a + (decC (x.drop a.toNat)).2.1)).toNat)).1 } (x.drop (IntKind.wrap .i64 (IntKind.wrap .i64 (a + (decC (x.drop a.toNat)).2.1) + (decL (x.drop (IntKind.wrap .i64 (a + (decC (x.drop a.toNat)).2.1)).toNat)).2.1)).toNat)).2.1))),
                  .one (.int .i64 (rbW { w with g := (decC (x.drop a.toNat)).1, u := (decL (x.drop (IntKind.wrap .i64 (a + (decC (x.drop a.toNat)).2.1)).toNat)).1 } (x.drop (IntKind.wrap .i64 (IntKind.wrap .i64 (a + (decC (x.drop a.toNat)).2.1) + (decL (x.drop (IntKind.wrap .i64 (a + (decC (x.drop a.toNat)).2.1)).toNat)).2.1)).toNat)).2.2)], [])) none) none))) none) none)) none) none = resM (rxB w x a) := by
  subst hT
  have hl := (okRd_of hx).2
  refine ct (inB_of h0 (by omega)) (ct (okRd_drop hx _) (cne (fun h => ?_) fun h => ?_))
  · unfold rxB
    dsimp only
    rw [if_pos h]
  obtain ⟨q1, q2, q3⟩ := bd_in ok_c hx h0 h1 h
  rw [q3]
  refine ct (inB_of (by omega) (by omega)) (ct (okRd_drop hx _) (cne (fun h2 => ?_) fun h2 => ?_))
  · unfold rxB
    dsimp only
    rw [if_neg (nn h), if_pos h2]
  obtain ⟨r1, r2, r3⟩ := bd_in ok_l hx (a := a + (decC (x.drop a.toNat)).2.1) (by omega) q2 h2
  rw [r3]
  by_cases hk : w.k = 1
  · refine ct (beq_iff_eq.2 hk) ?_
    unfold rxB
    dsimp only
    rw [if_neg (nn h), if_neg (nn h2), if_pos hk]
  · refine cf (by simpa using hk) (ct (inB_of (by omega) (by omega)) (ct (okRd_drop hx _) ?_))
    have hb := rbW_at { w with g := (decC (x.drop a.toNat)).1, u := (decL (x.drop (a + (decC (x.drop a.toNat)).2.1).toNat)).1 } (okRd_drop hx (a + (decC (x.drop a.toNat)).2.1 + (decL (x.drop (a + (decC (x.drop a.toNat)).2.1).toNat)).2.1).toNat)
    rw [List.length_drop] at hb
    rw [wrap64 (n := a + (decC (x.drop a.toNat)).2.1 + (decL (x.drop (a + (decC (x.drop a.toNat)).2.1).toNat)).2.1 + _) (by omega) (by omega)]
    unfold rxB
    dsimp only
    rw [if_neg (nn h), if_neg (nn h2), if_neg hk]
    rfl

theorem k35 (k f t p n r o : Int) (h m : Bool) (x : List (List Cell)) (hx : okRd x = true) : runF E (callOf L88) 1 35 [msgN k f t p n r o h m, .one (.sl false 5 x)] [] = resM (rxW (msg0 k f t p n r o h m) x) := by
  unfold msgN
  rw [e35, hx]
  simp only [dropN_eq]
  unfold rxW
  by_cases hk : k = 1
  · have e4 : (if (msg0 k f t p n r o h m).k = 1 then 4 else 3 : Int) = 4 := if_pos hk
    rw [e4]
    refine ct (beq_iff_eq.2 hk) (ct rfl (cne (fun h1 => ?_) fun h1 => ?_))
    · dsimp only
      rw [if_pos h1]
      rfl
    · dsimp only
      rw [if_neg (nn h1)]
      obtain ⟨b1, b2, b3, _⟩ := rread_bound hx h1
      have b3' : (rread x 4).1.length = 4 := b3
      refine ct (inB_of (by omega) (by omega)) (ct (inB_of (by omega) (by omega)) (ct (inB_of (by omega) (by omega)) (ct (inB_of (by omega) (by omega)) ?_)))
      rw [if_pos (show (msg0 k f t p n r o h m).k = 1 from hk)]
      exact rxB_tree { msg0 k f t p n r o h m with p := nr (Abs.rowAt (rread x 4).1 0) 0, n := nr (Abs.rowAt (rread x 4).1 1) 0, r := nr (Abs.rowAt (rread x 4).1 2) 0, o := nr (Abs.rowAt (rread x 4).1 3) 0 } x hx (rread x 4).2.1 b1 b2 (k == 1) rfl
  · have e4 : (if (msg0 k f t p n r o h m).k = 1 then 4 else 3 : Int) = 3 := if_neg hk
    rw [e4]
    refine cf (by simpa using hk) (ct rfl (cne (fun h1 => ?_) fun h1 => ?_))
    · dsimp only
      rw [if_pos h1]
      rfl
    · dsimp only
      rw [if_neg (nn h1)]
      obtain ⟨b1, b2, b3, _⟩ := rread_bound hx h1
      have b3' : (rread x 3).1.length = 3 := b3
      refine ct (inB_of (by omega) (by omega)) (ct (inB_of (by omega) (by omega)) (ct (inB_of (by omega) (by omega)) ?_))
      rw [if_neg (show ¬ (msg0 k f t p n r o h m).k = 1 from hk)]
      exact rxB_tree { msg0 k f t p n r o h m with p := nr (Abs.rowAt (rread x 3).1 0) 0, n := nr (Abs.rowAt (rread x 3).1 1) 0, r := nr (Abs.rowAt (rread x 3).1 2) 0 } x hx (rread x 3).2.1 b1 b2 (k == 1) rfl

end Go.Proofs.YtejimgikldiajaaGreat

namespace Go.Proofs.YtejimgikldiajaaGreat

open Go.Abs

theorem l36 (a n : Int) (c : Nat) (hc : c ≤ 100) (l : List (List Cell)) (hl : l.length = 2 * c) : ∀ (d i : Nat) (w : Msg), i + d = c → w.v.length ≤ i →
    ∃ m, goF E (callOf L35) F36 0 m P36_0 (M36_0 a c n l i w.k w.f w.t w.p w.n w.r w.o w.cf w.ct w.bf w.bt w.h w.ef w.et w.g w.u w.v w.m 0 0 0 0 0 0 0 [] [] [] [] false [] [] [] [] [] false) = resM ({ w with v := w.v ++ pairs l d i }, IntKind.wrap .i64 (a + n), 0)
  | 0, i, w, hi, hw => by
    refine ⟨1, ?_⟩
    rw [e36_0, pairs, List.append_nil]
    exact cf (decide_eq_false (by omega)) rfl
  | d + 1, i, w, hi, hw => by
    obtain ⟨m, hm⟩ := l36 a n c hc l hl d (i + 1) { w with v := w.v ++ [ent (nr (Abs.rowAt l (2 * i)) 0) (nr (Abs.rowAt l (2 * i + 1)) 0)] } (by omega) (by simp; omega)
    refine ⟨m + 1, ?_⟩
    have w1 : IntKind.wrap .i64 (2 * (i : Int)) = ((2 * i : Nat) : Int) := by rw [wrap64 (by omega) (by omega)]; omega
    have w2 : IntKind.wrap .i64 (((2 * i : Nat) : Int) + 1) = ((2 * i + 1 : Nat) : Int) := by rw [wrap64 (by omega) (by omega)]; omega
    rw [e36_0, w1, w2, Int.toNat_natCast, Int.toNat_natCast, nat_wrap (n := c) (by omega) (by omega), pairs]
    refine ct (decide_eq_true (by omega)) (ct (inB_nat' (by omega)) (ct (inB_nat' (by omega)) (ct (fits_of (by simp; omega)) ?_)))
    refine Eq.trans hm ?_
    simp only [List.append_assoc, List.singleton_append]

theorem ok2p {x : List (List Cell)} {c : Int} (h1 : okRd x = true) (h2 : c ≤ 1000) : (okRd x && decide (c ≤ 1000)) = true := by rw [h1, decide_eq_true h2]; rfl

theorem k36 (k f t p n r o : Int) (h m : Bool) (x : List (List Cell)) (hx : okRd x = true) : ∃ z, runF E (callOf L35) z 36 [msgN k f t p n r o h m, .one (.sl false 5 x)] [] = resM (rrW (msg0 k f t p n r o h m) x) := by
  have ha := bd_t x hx
  by_cases h1 : (decT2 x).2.2 = 0
  rotate_left
  · refine ⟨1, ?_⟩
    unfold msgN
    rw [e36, hx]
    refine ct rfl (ct (bne_iff_ne.2 h1) ?_)
    unfold rrW
    dsimp only
    rw [if_pos (show _ ≠ _ from h1)]
    rfl
  have h1' : (decT x).2.2.2 = 0 := h1
  have start : rrW (msg0 k f t p n r o h m) x = if k = 4 then rhW { msg0 k f t p n r o h m with cf := (decT x).1, ct := (decT x).2.1 } x (decT2 x).2.1 else if k = 5 then rcW { msg0 k f t p n r o h m with cf := (decT x).1, ct := (decT x).2.1 } x (decT2 x).2.1 else ({ msg0 k f t p n r o h m with cf := (decT x).1, ct := (decT x).2.1 }, (decT2 x).2.1, 0) := by
    unfold rrW
    dsimp only
    rw [if_neg (nn h1)]
    rfl
  rw [start]
  by_cases k4 : k = 4
  · rw [if_pos k4]
    by_cases h2 : (rnum2 (x.drop (decT2 x).2.1.toNat)).2.2 = 0
    rotate_left
    · refine ⟨1, ?_⟩
      unfold msgN
      rw [e36, hx]
      simp only [dropN_eq]
      refine ct rfl (cf (by rw [h1']; rfl) (ct (beq_iff_eq.2 k4) (ct (inB_of ha.1 (by have := ha.2; show (decT2 x).2.1 < _; omega)) (ct (okRd_drop hx _) (ct (bne_iff_ne.2 h2) ?_)))))
      unfold rhW
      dsimp only
      rw [if_pos (show _ ≠ _ from h2)]
      rfl
    by_cases h3 : 100 < (rnum2 (x.drop (decT2 x).2.1.toNat)).1
    · refine ⟨1, ?_⟩
      unfold msgN
      rw [e36, hx]
      simp only [dropN_eq]
      refine ct rfl (cf (by rw [h1']; rfl) (ct (beq_iff_eq.2 k4) (ct (inB_of ha.1 (by have := ha.2; show (decT2 x).2.1 < _; omega)) (ct (okRd_drop hx _) (cf (bne_eq_false_iff_eq.2 h2) (ct (decide_eq_true h3) ?_))))))
      unfold rhW
      dsimp only
      rw [if_neg (nn h2), if_pos h3]
      rfl
    obtain ⟨q1, q2, q3⟩ := bd_in ok_n hx ha.1 ha.2 h2
    have hv := rnum2_bound (okRd_of (okRd_drop hx (decT2 x).2.1.toNat)).1 h2
    have w2 : IntKind.wrap .i64 (2 * (rnum2 (x.drop (decT2 x).2.1.toNat)).1) = 2 * (rnum2 (x.drop (decT2 x).2.1.toNat)).1 := wrap64 (by omega) (by omega)
    have q3' : IntKind.wrap .i64 ((decT x).2.2.1 + (rnum2 (x.drop (decT x).2.2.1.toNat)).2.1) = (decT2 x).2.1 + (rnum2 (x.drop (decT2 x).2.1.toNat)).2.1 := q3
    have w2' : IntKind.wrap .i64 (2 * (rnum2 (x.drop (decT x).2.2.1.toNat)).1) = 2 * (rnum2 (x.drop (decT2 x).2.1.toNat)).1 := w2
    by_cases h4 : (rread (x.drop ((decT2 x).2.1 + (rnum2 (x.drop (decT2 x).2.1.toNat)).2.1).toNat) (2 * (rnum2 (x.drop (decT2 x).2.1.toNat)).1)).2.2 = 0
    rotate_left
    · refine ⟨1, ?_⟩
      unfold msgN
      rw [e36, hx]
      simp only [dropN_eq, q3', w2']
      refine ct rfl (cf (by rw [h1']; rfl) (ct (beq_iff_eq.2 k4) (ct (inB_of ha.1 (by have := ha.2; show (decT2 x).2.1 < _; omega)) (ct (okRd_drop hx _) (cf (bne_eq_false_iff_eq.2 h2) (cf (decide_eq_false h3) (ct (inB_of (by omega) (by omega)) (ct (ok2p (okRd_drop hx _) (by omega)) (ct (bne_iff_ne.2 h4) ?_)))))))))
      unfold rhW
      dsimp only
      rw [if_neg (nn h2), if_neg h3, if_pos (show _ ≠ _ from h4)]
      rfl
    obtain ⟨b1, b2, b3, _⟩ := rread_bound (okRd_drop hx _) h4
    rw [List.length_drop] at b2
    obtain ⟨z, hz⟩ := l36 ((decT2 x).2.1 + (rnum2 (x.drop (decT2 x).2.1.toNat)).2.1) (rread (x.drop ((decT2 x).2.1 + (rnum2 (x.drop (decT2 x).2.1.toNat)).2.1).toNat) (2 * (rnum2 (x.drop (decT2 x).2.1.toNat)).1)).2.1
      (rnum2 (x.drop (decT2 x).2.1.toNat)).1.toNat (by omega) _ (by rw [b3]; omega) (rnum2 (x.drop (decT2 x).2.1.toNat)).1.toNat 0 { msg0 k f t p n r o h m with cf := (decT x).1, ct := (decT x).2.1 } (by omega) (by simp [msg0])
    refine ⟨z + 1, ?_⟩
    unfold msgN
    rw [e36, hx]
    simp only [dropN_eq, q3', w2']
    refine ct rfl (cf (by rw [h1']; rfl) (ct (beq_iff_eq.2 k4) (ct (inB_of ha.1 (by have := ha.2; show (decT2 x).2.1 < _; omega)) (ct (okRd_drop hx _) (cf (bne_eq_false_iff_eq.2 h2) (cf (decide_eq_false h3) (ct (inB_of (by omega) (by omega)) (ct (ok2p (okRd_drop hx _) (by omega)) (cf (bne_eq_false_iff_eq.2 h4) ?_)))))))))
    have e1 : (((rnum2 (x.drop (decT2 x).2.1.toNat)).1.toNat : Nat) : Int) = (rnum2 (x.drop (decT2 x).2.1.toNat)).1 := Int.toNat_of_nonneg (by omega)
    rw [e1] at hz
    refine Eq.trans hz ?_
    have hl := (okRd_of hx).2
    rw [wrap64 (by omega) (by omega)]
    unfold rhW
    dsimp only
    rw [if_neg (nn h2), if_neg h3, if_neg (nn h4)]
  · rw [if_neg k4]
    by_cases k5 : k = 5
    · rw [if_pos k5]
      refine ⟨1, ?_⟩
      unfold msgN
      rw [e36, hx]
      simp only [dropN_eq]
      have hl := (okRd_of hx).2
      refine ct rfl (cf (by rw [h1']; rfl) (cf (by simpa using k4) (ct (beq_iff_eq.2 k5) (ct (inB_of ha.1 (by have := ha.2; show (decT2 x).2.1 < _; omega)) (ct (okRd_drop hx _) (cne (fun h2 => ?_) fun h2 => ?_))))))
      · unfold rcW
        dsimp only
        rw [if_pos (show (decL (x.drop (decT2 x).2.1.toNat)).2.2 ≠ 0 from h2)]
        rfl
      obtain ⟨q1, q2, q3⟩ := bd_in ok_l hx ha.1 ha.2 h2
      have q3' : IntKind.wrap .i64 ((decT x).2.2.1 + (decL (x.drop (decT x).2.2.1.toNat)).2.1) = (decT2 x).2.1 + (decL (x.drop (decT2 x).2.1.toNat)).2.1 := q3
      rw [q3']
      refine ct (inB_of (by omega) (by omega)) (ct (okRd_drop hx _) (cne (fun h3 => ?_) fun h3 => ?_))
      · unfold rcW
        dsimp only
        rw [if_neg (nn (show (decL (x.drop (decT2 x).2.1.toNat)).2.2 = 0 from h2)), if_pos h3]
        rfl
      obtain ⟨r1, r2, r3⟩ := bd_in ok_b hx (a := (decT2 x).2.1 + (decL (x.drop (decT2 x).2.1.toNat)).2.1) (by omega) q2 h3
      rw [r3]
      refine ct (inB_of (by omega) (by omega)) (ct (okRd_drop hx _) ?_)
      have hb := rbW_at { msg0 k f t p n r o h m with cf := (decT x).1, ct := (decT x).2.1, u := (decL (x.drop (decT2 x).2.1.toNat)).1, m := (bdec (x.drop ((decT2 x).2.1 + (decL (x.drop (decT2 x).2.1.toNat)).2.1).toNat)).1 } (okRd_drop hx ((decT2 x).2.1 + (decL (x.drop (decT2 x).2.1.toNat)).2.1 + (bdec (x.drop ((decT2 x).2.1 + (decL (x.drop (decT2 x).2.1.toNat)).2.1).toNat)).2.1).toNat)
      rw [List.length_drop] at hb
      have w3 := wrap64 (n := (decT2 x).2.1 + (decL (x.drop (decT2 x).2.1.toNat)).2.1 + (bdec (x.drop ((decT2 x).2.1 + (decL (x.drop (decT2 x).2.1.toNat)).2.1).toNat)).2.1 + (rbW { msg0 k f t p n r o h m with cf := (decT x).1, ct := (decT x).2.1, u := (decL (x.drop (decT2 x).2.1.toNat)).1, m := (bdec (x.drop ((decT2 x).2.1 + (decL (x.drop (decT2 x).2.1.toNat)).2.1).toNat)).1 } (x.drop ((decT2 x).2.1 + (decL (x.drop (decT2 x).2.1.toNat)).2.1 + (bdec (x.drop ((decT2 x).2.1 + (decL (x.drop (decT2 x).2.1.toNat)).2.1).toNat)).2.1).toNat)).2.1) (by omega) (by omega)
      unfold rcW
      dsimp only
      rw [if_neg (nn (show (decL (x.drop (decT2 x).2.1.toNat)).2.2 = 0 from h2)), if_neg (nn h3)]
      refine Eq.trans ?_ (congrArg (fun z => some ([msgV _, AV.one (.int .i64 z), .one (.int .i64 _)], ([] : List Block))) w3)
      rfl
    · rw [if_neg k5]
      refine ⟨1, ?_⟩
      unfold msgN
      rw [e36, hx]
      exact ct rfl (cf (by rw [h1']; rfl) (cf (by simpa using k4) (cf (by simpa using k5) rfl)))

end Go.Proofs.YtejimgikldiajaaGreat

namespace Go.Proofs.YtejimgikldiajaaGreat

open Go.Abs

def thn {α : Type} (p : α × Int × Int) (K : α → Int → Msg × Int × Int) : Msg × Int × Int := if p.2.2 ≠ 0 then (noMsg, 0, p.2.2) else K p.1 p.2.1

theorem thn_err {α : Type} {p : α × Int × Int} {K : α → Int → Msg × Int × Int} (h : p.2.2 ≠ 0) : thn p K = (noMsg, 0, p.2.2) := if_pos h

theorem thn_ok {α : Type} {p : α × Int × Int} {K : α → Int → Msg × Int × Int} (h : p.2.2 = 0) : thn p K = K p.1 p.2.1 := if_neg (nn h)

theorem thn_ok3 {α : Type} {v : α} {o e : Int} {K : α → Int → Msg × Int × Int} (h : e = 0) : thn (v, o, e) K = K v o := if_neg (nn h)

theorem thn_err3 {α : Type} {v : α} {o e : Int} {K : α → Int → Msg × Int × Int} (h : e ≠ 0) : thn (v, o, e) K = (noMsg, 0, e) := if_pos h

theorem thn_same {α : Type} {p q : α × Int × Int} (K : α → Int → Msg × Int × Int) (h1 : p.2.2 = q.2.2) (h2 : q.2.2 = 0 → p = q) : thn p K = thn q K := by
  by_cases h : q.2.2 = 0
  · rw [h2 h]
  · rw [thn_err (show p.2.2 ≠ 0 by rw [h1]; exact h), thn_err h, h1]

def fin1 (Q : Msg → Int → Msg × Int × Int) (p : Msg × Int × Int) : Msg × Int × Int := thn p Q

variable {Q : Msg → Int → Msg × Int × Int}

theorem fin1_err {p : Msg × Int × Int} (h : p.2.2 ≠ 0) : fin1 Q p = (noMsg, 0, p.2.2) := if_pos h

theorem mstep_e {α : Type} {z : α} {d : List (List Cell) → α × Int × Int} {b : List (List Cell)} {o e : Int} (h : e ≠ 0) : rstep z d b o e = (z, o, e) := if_pos h

theorem rnumM_e {b : List (List Cell)} {o e : Int} (h : e ≠ 0) : (rnumM b o e).2.2 = e := by
  unfold rnumM
  rw [mstep_e h, if_pos h]

theorem failE_e {w : Bool} {k e : Int} (h : e ≠ 0) : failE w k e = e := if_neg fun g => h g.2

theorem rstF_e (b : List (List Cell)) : ∀ (d : Nat) (o e : Int) (acc : List (List Cell)), e ≠ 0 → (rstF b d o e acc).2.2 = e
  | 0, _, _, _, _ => rfl
  | d + 1, o, e, acc, h => by rw [rstF, if_pos h]

theorem rvcF_e (b : List (List Cell)) : ∀ (d : Nat) (o e : Int) (acc : List (List Cell)), e ≠ 0 → (rvcF b d o e acc).2.2 = e
  | 0, _, _, _, _ => rfl
  | d + 1, o, e, acc, h => by rw [rvcF, if_pos h]

theorem rdF_e {b : List (List Cell)} {o e f : Int} {w : Msg} (h : e ≠ 0) : (rdF b o e w f).2.2 = e := by
  have hn := rnumM_e (b := b) (o := o) h
  unfold rdF
  by_cases c0 : f = 0
  · rw [if_pos c0]
    show (rnumM b (rnumM b o e).2.1 (rnumM b o e).2.2).2.2 = e
    rw [hn]
    exact rnumM_e h
  rw [if_neg c0]
  by_cases c1 : f = 1
  · rw [if_pos c1]; exact hn
  rw [if_neg c1]
  by_cases c2 : f = 2
  · rw [if_pos c2]; exact hn
  rw [if_neg c2]
  by_cases c3 : f = 3
  · rw [if_pos c3]; show (rstep _ _ _ _ _).2.2 = e; rw [mstep_e h]
  rw [if_neg c3]
  by_cases c4 : f = 4
  · rw [if_pos c4]
    show (rstF b _ _ (failE _ 3 (rnumM b o e).2.2) []).2.2 = e
    rw [hn, failE_e h]
    exact rstF_e b _ _ _ _ h
  rw [if_neg c4]
  by_cases c5 : f = 5
  · rw [if_pos c5]; show (rstep _ _ _ _ _).2.2 = e; rw [mstep_e h]
  rw [if_neg c5]
  by_cases c6 : f = 6
  · rw [if_pos c6]
    show (rvcF b _ _ (failE _ 3 (rnumM b o e).2.2) []).2.2 = e
    rw [hn, failE_e h]
    exact rvcF_e b _ _ _ _ h
  rw [if_neg c6]
  by_cases c7 : f = 7
  · rw [if_pos c7]; show (rstep _ _ _ _ _).2.2 = e; rw [mstep_e h]
  rw [if_neg c7]
  by_cases c8 : f = 8
  · rw [if_pos c8]; show (rstep _ _ _ _ _).2.2 = e; rw [mstep_e h]
  rw [if_neg c8]
  by_cases c9 : f = 9
  · rw [if_pos c9]
    by_cases hh : w.h = true
    · rw [if_pos hh]; show (rstep _ _ _ _ _).2.2 = e; rw [mstep_e h]
    · rw [if_neg hh]
  rw [if_neg c9]
  by_cases c10 : f = 10
  · rw [if_pos c10]; show (rstep _ _ _ _ _).2.2 = e; rw [mstep_e h]
  rw [if_neg c10]

theorem rdAll_e (b : List (List Cell)) : ∀ (l : List (List Cell)) (o e : Int) (w : Msg), e ≠ 0 → (rdAll b l o e w).2.2 = e
  | [], _, _, _, _ => rfl
  | r :: l, o, e, w, h => by
    rw [rdAll]
    have := rdF_e (b := b) (o := o) (f := nr r 0) (w := w) h
    rw [rdAll_e b l _ _ _ (by rw [this]; exact h), this]

theorem fin_e {b l : List (List Cell)} {o e : Int} {w : Msg} (h : e ≠ 0) : fin1 Q (rdAll b l o e w) = (noMsg, 0, e) := by
  have := rdAll_e b l o e w h
  rw [fin1_err (by rw [this]; exact h), this]

theorem step_thn {α : Type} {b l : List (List Cell)} {o f : Int} {w : Msg} (p : α × Int × Int) (g : α → Msg) (h : rdF b o 0 w f = (g p.1, p.2)) :
    fin1 Q (rdAll b ([.int .i64 f] :: l) o 0 w) = thn p fun v o' => fin1 Q (rdAll b l o' 0 (g v)) := by
  rw [rdAll]
  have hf : nr [Cell.int .i64 f] 0 = f := rfl
  rw [hf, h]
  by_cases he : p.2.2 = 0
  · rw [thn_ok he]
    dsimp only
    rw [he]
  · rw [thn_err he]
    exact fin_e he

theorem step_two {b l : List (List Cell)} {o : Int} {w : Msg} : fin1 Q (rdAll b ([.int .i64 0] :: l) o 0 w) =
    thn (rnumM b o 0) fun v o' => thn (rnumM b o' 0) fun v' o'' => fin1 Q (rdAll b l o'' 0 { w with p := v, n := v' }) := by
  rw [rdAll]
  have hf : nr [Cell.int .i64 0] 0 = 0 := rfl
  have h0 : rdF b o 0 w 0 = ({ w with p := (rnumM b o 0).1, n := (rnumM b (rnumM b o 0).2.1 (rnumM b o 0).2.2).1 }, (rnumM b (rnumM b o 0).2.1 (rnumM b o 0).2.2).2) := rfl
  rw [hf, h0]
  by_cases he : (rnumM b o 0).2.2 = 0
  · rw [thn_ok he, he]
    by_cases he2 : (rnumM b (rnumM b o 0).2.1 0).2.2 = 0
    · rw [thn_ok he2]
      dsimp only
      rw [he2]
    · rw [thn_err he2]
      exact fin_e he2
  · rw [thn_err he]
    have := rnumM_e (b := b) (o := (rnumM b o 0).2.1) he
    rw [fin_e (show (rnumM b (rnumM b o 0).2.1 (rnumM b o 0).2.2).2.2 ≠ 0 by rw [this]; exact he), this]

def numA (b : List (List Cell)) (o : Int) : Int × Int × Int := rstep 0 rnum2 b o 0

def lstA (b : List (List Cell)) (o : Int) : List (List Cell) × Int × Int := rstep [] decL b o 0

theorem rstep_0 {α : Type} {z : α} {d : List (List Cell) → α × Int × Int} {b : List (List Cell)} {o : Int} : rstep z d b o 0 = ((d (b.drop o.toNat)).1, o + (d (b.drop o.toNat)).2.1, (d (b.drop o.toNat)).2.2) := if_neg (nn rfl)

theorem num_thn {b : List (List Cell)} {o : Int} (K : Int → Int → Msg × Int × Int) : thn (rnumM b o 0) K = thn (numA b o) K := by
  unfold numA
  refine thn_same K ?_ ?_
  · unfold rnumM rnum2
    rw [rstep_0, rstep_0]
    dsimp only
    by_cases h1 : (udec (b.drop o.toNat)).2.2 = 0
    · rw [if_neg (nn h1), if_neg (nn h1)]
      by_cases h2 : 2147483647 < (udec (b.drop o.toNat)).1
      · rw [if_pos h2, if_pos h2]
      · rw [if_neg h2, if_neg h2]
    · rw [if_pos (show _ ≠ _ from h1), if_pos (show _ ≠ _ from h1)]
  · intro h
    rw [rstep_0] at h
    unfold rnumM
    rw [rstep_0, rstep_0]
    unfold rnum2 at h ⊢
    dsimp only at h ⊢
    by_cases h1 : (udec (b.drop o.toNat)).2.2 = 0
    · rw [if_neg (nn h1)] at h
      rw [if_neg (nn h1), if_neg (nn h1)]
      by_cases h2 : 2147483647 < (udec (b.drop o.toNat)).1
      · rw [if_pos h2] at h; cases h
      · rw [if_neg h2, if_neg h2]
    · rw [if_pos (show _ ≠ _ from h1)] at h
      exact absurd h h1

theorem numA_ok {b : List (List Cell)} {o : Int} (h : okAt b o = true) (he : (numA b o).2.2 = 0) : okAt b (numA b o).2.1 = true ∧ o ≤ (numA b o).2.1 ∧ 0 ≤ (numA b o).1 ∧ (numA b o).1 ≤ 2147483647 := by
  obtain ⟨h1, h2, h3⟩ := okAt_of h
  unfold numA at he ⊢
  rw [rstep_0] at he ⊢
  obtain ⟨q1, q2, _⟩ := bd_in ok_n h1 h2 h3 he
  have := rnum2_bound (okRd_of (okRd_drop h1 o.toNat)).1 he
  exact ⟨okAt_mk h1 (by dsimp only; omega) q2, by dsimp only; omega, this.2.2⟩

theorem rst_list {b : List (List Cell)} {o : Int} (h : okAt b o = true) (K : List (List Cell) → Int → Msg × Int × Int) : thn (rst b o 0) K = thn (lstA b o) K := by
  obtain ⟨h1, h2, h3⟩ := okAt_of h
  -- the loops
  have loop : ∀ (d : Nat) (a : Int) (acc : List (List Cell)), 0 ≤ a → o + a ≤ b.length → (rstF b d (o + a) 0 acc).2.2 = (decUs (b.drop o.toNat) d a acc).2.2 ∧ ((decUs (b.drop o.toNat) d a acc).2.2 = 0 → rstF b d (o + a) 0 acc = ((decUs (b.drop o.toNat) d a acc).1, o + (decUs (b.drop o.toNat) d a acc).2.1, 0)) := by
    intro d
    induction d with
    | zero => intro a acc _ _; exact ⟨rfl, fun _ => rfl⟩
    | succ d ih =>
      intro a acc ha hb
      have hdd : (b.drop o.toNat).drop a.toNat = b.drop (o + a).toNat := by rw [List.drop_drop]; congr 1; omega
      have hbd := decU_bound (okRd_drop h1 (o + a).toNat)
      rw [List.length_drop] at hbd
      rw [rstF, decUs, if_neg (nn rfl), hdd]
      have hr : rupd b (o + a) 0 = (((decU (b.drop (o + a).toNat)).1, (decU (b.drop (o + a).toNat)).2.1, (decU (b.drop (o + a).toNat)).2.2.1, (decU (b.drop (o + a).toNat)).2.2.2.1), o + a + (decU (b.drop (o + a).toNat)).2.2.2.2.1, (decU (b.drop (o + a).toNat)).2.2.2.2.2) := rstep_0
      rw [hr]
      by_cases he : (decU (b.drop (o + a).toNat)).2.2.2.2.2 = 0
      · rw [if_neg (nn he), he]
        have := ih (a + (decU (b.drop (o + a).toNat)).2.2.2.2.1) (acc ++ [mkU (decU (b.drop (o + a).toNat))]) (by omega) (by omega)
        rw [← Int.add_assoc] at this
        exact this
      · rw [if_pos (show _ ≠ _ from he)]
        dsimp only
        rw [rstF_e b _ _ _ _ he]
        exact ⟨rfl, fun h => absurd h he⟩
  have hn := num_thn (b := b) (o := o) (fun v o' => (noMsg, o', v))
  unfold thn numA at hn
  rw [rstep_0] at hn
  unfold lstA
  rw [rstep_0]
  unfold rst
  by_cases he : (rnum2 (b.drop o.toNat)).2.2 = 0
  · rw [if_neg (nn he)] at hn
    have he' : (rnumM b o 0).2.2 = 0 := by
      by_cases hc : (rnumM b o 0).2.2 = 0
      · exact hc
      · rw [if_pos (show _ ≠ _ from hc)] at hn
        injection hn with _ hn
        injection hn with hn1 hn2
        have hb := rnum2_bound (okRd_of (okRd_drop h1 o.toNat)).1 he
        dsimp only at hn1
        omega
    rw [if_neg (nn he')] at hn
    injection hn with _ hn
    injection hn with hn1 hn2
    dsimp only at hn1 hn2
    have hb := rnum2_bound (okRd_of (okRd_drop h1 o.toNat)).1 he
    rw [List.length_drop] at hb
    rw [hn1, hn2, he']
    by_cases h48 : 48 < (rnum2 (b.drop o.toNat)).1
    · have hf : failE (decide (48 < (rnum2 (b.drop o.toNat)).1)) 3 0 = 3 := if_pos ⟨decide_eq_true h48, rfl⟩
      have hd : decL (b.drop o.toNat) = ([], 0, 3) := by unfold decL; rw [if_neg (nn he), if_pos h48]
      rw [hf, hd]
      have := rstF_e b (rnum2 (b.drop o.toNat)).1.toNat (o + (rnum2 (b.drop o.toNat)).2.1) 3 [] (by decide)
      rw [thn_err (by rw [this]; decide), thn_err (by show (3 : Int) ≠ 0; decide), this]
    · have hf : failE (decide (48 < (rnum2 (b.drop o.toNat)).1)) 3 0 = 0 := if_neg fun g => h48 (of_decide_eq_true g.1)
      have hd : decL (b.drop o.toNat) = decUs (b.drop o.toNat) (rnum2 (b.drop o.toNat)).1.toNat (rnum2 (b.drop o.toNat)).2.1 [] := by unfold decL; rw [if_neg (nn he), if_neg h48]
      rw [hf, hd]
      obtain ⟨l1, l2⟩ := loop (rnum2 (b.drop o.toNat)).1.toNat (rnum2 (b.drop o.toNat)).2.1 [] (by omega) (by omega)
      refine thn_same K l1 fun h => ?_
      rw [l2 h]
      dsimp only at h
      rw [h]
  · have he' : (rnumM b o 0).2.2 = (rnum2 (b.drop o.toNat)).2.2 := by
      rw [if_pos (show _ ≠ _ from he)] at hn
      by_cases hc : (rnumM b o 0).2.2 = 0
      · rw [if_neg (nn hc)] at hn
        unfold rnumM at hc
        rw [rstep_0] at hc
        unfold rnum2 at he
        dsimp only at hc
        by_cases g1 : (udec (b.drop o.toNat)).2.2 = 0
        · rw [if_neg (nn g1)] at hc he
          by_cases g2 : 2147483647 < (udec (b.drop o.toNat)).1
          · rw [if_pos g2] at hc; cases hc
          · rw [if_neg g2] at he; exact absurd g1 he
        · rw [if_pos (show _ ≠ _ from g1)] at hc
          exact absurd hc g1
      · rw [if_pos (show _ ≠ _ from hc)] at hn
        injection hn with _ hn
        injection hn
    have hd : decL (b.drop o.toNat) = ([], 0, (rnum2 (b.drop o.toNat)).2.2) := by unfold decL; rw [if_pos (show _ ≠ _ from he)]
    rw [hd, he', failE_e he]
    have := rstF_e b (rnumM b o 0).1.toNat (rnumM b o 0).2.1 (rnum2 (b.drop o.toNat)).2.2 [] he
    rw [thn_err (by rw [this]; exact he), this]
    exact (thn_err (p := (([] : List (List Cell)), o + 0, (rnum2 (b.drop o.toNat)).2.2)) he).symm

def chainN (b : List (List Cell)) : Nat → Int → List (List Cell) → (List (List Cell) → Int → Msg × Int × Int) → Msg × Int × Int
  | 0, o, acc, K => K acc o
  | k + 1, o, acc, K => thn (numA b o) fun v o' => chainN b k o' (acc ++ [[.int .i64 v]]) K

theorem chain_rdM {b : List (List Cell)} {o : Int} (hb : okRd b = true) (ho : 0 ≤ o) (K : List (List Cell) → Int → Msg × Int × Int) : ∀ (k : Nat) (a : Int) (acc : List (List Cell)), 0 ≤ a → o + a ≤ b.length →
    thn ((rreadF (b.drop o.toNat) k a acc).1, o + (rreadF (b.drop o.toNat) k a acc).2.1, (rreadF (b.drop o.toNat) k a acc).2.2) K = chainN b k (o + a) acc K
  | 0, a, acc, _, _ => rfl
  | k + 1, a, acc, ha, hl => by
    have hdd : (b.drop o.toNat).drop a.toNat = b.drop (o + a).toNat := by rw [List.drop_drop]; congr 1; omega
    rw [rreadF, chainN, hdd]
    unfold numA
    rw [rstep_0]
    by_cases he : (rnum2 (b.drop (o + a).toNat)).2.2 = 0
    · obtain ⟨q1, q2, _⟩ := bd_in ok_n hb (by omega) hl he
      rw [if_neg (nn he), thn_ok3 (v := (rnum2 (b.drop (o + a).toNat)).1) (o := o + a + (rnum2 (b.drop (o + a).toNat)).2.1) he]
      have := chain_rdM hb ho K k (a + (rnum2 (b.drop (o + a).toNat)).2.1) (acc ++ [[.int .i64 (rnum2 (b.drop (o + a).toNat)).1]]) (by omega) (by omega)
      rw [← Int.add_assoc] at this
      exact this
    · rw [if_pos (show _ ≠ _ from he)]
      exact (thn_err3 (v := ([] : List (List Cell))) (o := o + 0) he).trans (thn_err3 (v := (rnum2 (b.drop (o + a).toNat)).1) (o := o + a + (rnum2 (b.drop (o + a).toNat)).2.1) he).symm

theorem chain_ext {b : List (List Cell)} {K K' : List (List Cell) → Int → Msg × Int × Int} : ∀ (k : Nat) (o : Int) (acc : List (List Cell)), (∀ l o', acc <+: l → K l o' = K' l o') → chainN b k o acc K = chainN b k o acc K'
  | 0, o, acc, h => h _ _ (List.prefix_refl _)
  | k + 1, o, acc, h => by
    rw [chainN, chainN]
    by_cases he : (numA b o).2.2 = 0
    · rw [thn_ok he, thn_ok he]
      exact chain_ext k _ _ fun l o' hp => h l o' ((List.prefix_append _ _).trans hp)
    · rw [thn_err he, thn_err he]

theorem numM_A {b : List (List Cell)} {o : Int} : (rnumM b o 0).2.2 = (numA b o).2.2 ∧ ((numA b o).2.2 = 0 → rnumM b o 0 = numA b o) := by
  constructor
  · have := num_thn (b := b) (o := o) (fun v o' => (noMsg, 0, 0))
    unfold thn at this
    by_cases h1 : (rnumM b o 0).2.2 = 0 <;> by_cases h2 : (numA b o).2.2 = 0
    · rw [h1, h2]
    · rw [if_neg (nn h1), if_pos (show _ ≠ _ from h2)] at this
      injection this with _ this
      injection this with _ this
      exact absurd this.symm h2
    · rw [if_pos (show _ ≠ _ from h1), if_neg (nn h2)] at this
      injection this with _ this
      injection this with _ this
      exact absurd this h1
    · rw [if_pos (show _ ≠ _ from h1), if_pos (show _ ≠ _ from h2)] at this
      injection this with _ this
      injection this with _ this
  · intro h
    unfold numA at h ⊢
    rw [rstep_0] at h
    unfold rnumM
    rw [rstep_0, rstep_0]
    unfold rnum2 at h ⊢
    dsimp only at h ⊢
    by_cases h1 : (udec (b.drop o.toNat)).2.2 = 0
    · rw [if_neg (nn h1)] at h
      rw [if_neg (nn h1), if_neg (nn h1)]
      by_cases h2 : 2147483647 < (udec (b.drop o.toNat)).1
      · rw [if_pos h2] at h; cases h
      · rw [if_neg h2, if_neg h2]
    · rw [if_pos (show _ ≠ _ from h1)] at h
      exact absurd h h1

theorem rowAt_pre {acc l : List (List Cell)} {r : List Cell} {i : Nat} (hi : i < acc.length) (h : acc <+: l) : Abs.rowAt l i = Abs.rowAt acc i := by
  obtain ⟨t, rfl⟩ := h
  rw [rowAt_eq hi, rowAt_eq (by simp; omega)]
  exact List.getElem_append_left hi

theorem vec_chain {b : List (List Cell)} (K : List (List Cell) → Int → Msg × Int × Int) : ∀ (d i : Nat) (o : Int) (acc2 accv : List (List Cell)), acc2.length = 2 * i →
    thn (rvcF b d o 0 accv) K = chainN b (2 * d) o acc2 fun l o' => K (accv ++ pairs l d i) o'
  | 0, i, o, acc2, accv, _ => by
    show thn (accv, o, 0) K = K (accv ++ []) o
    rw [List.append_nil]
    exact thn_ok rfl
  | d + 1, i, o, acc2, accv, hl => by
    rw [rvcF, if_neg (nn rfl), show 2 * (d + 1) = 2 * d + 1 + 1 by omega, chainN]
    obtain ⟨m1, m2⟩ := numM_A (b := b) (o := o)
    by_cases he : (numA b o).2.2 = 0
    · rw [thn_ok he, m2 he, he, chainN]
      obtain ⟨n1, n2⟩ := numM_A (b := b) (o := (numA b o).2.1)
      by_cases he2 : (numA b (numA b o).2.1).2.2 = 0
      · rw [thn_ok he2, n2 he2, he2]
        rw [vec_chain K d (i + 1) _ (acc2 ++ [[.int .i64 (numA b o).1]] ++ [[.int .i64 (numA b (numA b o).2.1).1]]) _ (by simp; omega)]
        refine chain_ext _ _ _ fun l o' hp => ?_
        rw [pairs]
        have e1 : Abs.rowAt l (2 * i) = [.int .i64 (numA b o).1] := by
          rw [rowAt_pre (r := []) (by simp; omega) hp, rowAt_eq (by simp; omega)]
          rw [List.getElem_append_left (by simp; omega), List.getElem_append_right (by omega)]
          simp [hl]
        have e2 : Abs.rowAt l (2 * i + 1) = [.int .i64 (numA b (numA b o).2.1).1] := by
          rw [rowAt_pre (r := []) (by simp; omega) hp, rowAt_eq (by simp; omega)]
          rw [List.getElem_append_right (by simp; omega)]
          simp [hl]
        rw [e1, e2]
        show K (accv ++ [ent _ _] ++ _) o' = K (accv ++ ent _ _ :: _) o'
        rw [List.append_assoc]
        rfl
      · rw [thn_err he2]
        have hee : (rnumM b (numA b o).2.1 0).2.2 ≠ 0 := by rw [n1]; exact he2
        have := rvcF_e b d (rnumM b (numA b o).2.1 0).2.1 _ (accv ++ [ent (numA b o).1 (rnumM b (numA b o).2.1 0).1]) hee
        rw [thn_err (by rw [this]; exact hee), this, n1]
    · rw [thn_err he]
      have he0 : (rnumM b o 0).2.2 ≠ 0 := by rw [m1]; exact he
      have h2 := rnumM_e (b := b) (o := (rnumM b o 0).2.1) he0
      have hee : (rnumM b (rnumM b o 0).2.1 (rnumM b o 0).2.2).2.2 ≠ 0 := by rw [h2]; exact he0
      have := rvcF_e b d (rnumM b (rnumM b o 0).2.1 (rnumM b o 0).2.2).2.1 _ (accv ++ [ent (rnumM b o 0).1 (rnumM b (rnumM b o 0).2.1 (rnumM b o 0).2.2).1]) hee
      rw [thn_err (by rw [this]; exact hee), this, h2, m1]

theorem rvc_chain {b : List (List Cell)} {o : Int} (K : List (List Cell) → Int → Msg × Int × Int) : thn (rvc b o 0) K =
    thn (numA b o) fun c o1 => if 100 < c then (noMsg, 0, 3) else chainN b (2 * c.toNat) o1 [] fun l o2 => K (pairs l c.toNat 0) o2 := by
  obtain ⟨m1, m2⟩ := numM_A (b := b) (o := o)
  unfold rvc
  by_cases he : (numA b o).2.2 = 0
  · rw [thn_ok he, m2 he, he]
    by_cases h1 : 100 < (numA b o).1
    · have hf : failE (decide (100 < (numA b o).1)) 3 0 = 3 := if_pos ⟨decide_eq_true h1, rfl⟩
      rw [if_pos h1, hf]
      have := rvcF_e b (numA b o).1.toNat (numA b o).2.1 3 [] (by decide)
      rw [thn_err (by rw [this]; decide), this]
    · have hf : failE (decide (100 < (numA b o).1)) 3 0 = 0 := if_neg fun g => h1 (of_decide_eq_true g.1)
      rw [if_neg h1, hf, vec_chain K _ 0 _ [] [] rfl]
      rfl
  · rw [thn_err he]
    have he0 : (rnumM b o 0).2.2 ≠ 0 := by rw [m1]; exact he
    have hf : failE (decide (100 < (rnumM b o 0).1)) 3 (rnumM b o 0).2.2 = (rnumM b o 0).2.2 := failE_e he0
    rw [hf]
    have := rvcF_e b (rnumM b o 0).1.toNat (rnumM b o 0).2.1 _ [] he0
    rw [thn_err (by rw [this]; exact he0), this, m1]

end Go.Proofs.YtejimgikldiajaaGreat

namespace Go.Proofs.YtejimgikldiajaaGreat

open Go.Abs

variable {Q : Msg → Int → Msg × Int × Int}

theorem thn_congr {α : Type} {p : α × Int × Int} {K K' : α → Int → Msg × Int × Int} (h : p.2.2 = 0 → K p.1 p.2.1 = K' p.1 p.2.1) : thn p K = thn p K' := by
  by_cases he : p.2.2 = 0
  · rw [thn_ok he, thn_ok he, h he]
  · rw [thn_err he, thn_err he]

theorem thn_step {α : Type} {z : α} {d : List (List Cell) → α × Int × Int} {b : List (List Cell)} {o : Int} (K : α → Int → Msg × Int × Int) :
    thn (rstep z d b o 0) K = if (d (b.drop o.toNat)).2.2 ≠ 0 then (noMsg, 0, (d (b.drop o.toNat)).2.2) else K (d (b.drop o.toNat)).1 (o + (d (b.drop o.toNat)).2.1) := by
  rw [rstep_0]
  rfl

theorem finS_if {e o : Int} {w : Msg} {X : Msg × Int × Int} : fin1 Q (shiftM o (if e ≠ 0 then (w, 0, e) else X)) = if e ≠ 0 then (noMsg, 0, e) else fin1 Q (shiftM o X) := by
  by_cases h : e = 0
  · rw [if_neg (nn h), if_neg (nn h)]
  · rw [if_pos h, if_pos h]
    exact fin1_err (p := (w, o + 0, e)) h

theorem drop2 {b : List (List Cell)} {o a : Int} (h0 : 0 ≤ o) (h1 : 0 ≤ a) : (b.drop o.toNat).drop a.toNat = b.drop (o + a).toNat := by
  rw [List.drop_drop]
  congr 1
  omega

def certA (b : List (List Cell)) (o : Int) : (List (List Cell) × List (List Cell)) × Int × Int := rstep ([], []) decT2 b o 0

def boolA (b : List (List Cell)) (o : Int) : Bool × Int × Int := rstep false bdec b o 0

def cfgA (b : List (List Cell)) (o : Int) : List (List Cell) × Int × Int := rstep [] decC b o 0

theorem ok_step {α : Type} {z : α} {d : List (List Cell) → α × Int × Int} (hd : BdOk d) {b : List (List Cell)} {o : Int} (h : okAt b o = true) (he : (d (b.drop o.toNat)).2.2 = 0) :
    okAt b (o + (d (b.drop o.toNat)).2.1) = true ∧ 0 ≤ (d (b.drop o.toNat)).2.1 := by
  obtain ⟨h1, h2, h3⟩ := okAt_of h
  obtain ⟨q1, q2, _⟩ := bd_in hd h1 h2 h3 he
  exact ⟨okAt_mk h1 (by omega) q2, q1⟩

def basesM (Q : Msg → Int → Msg × Int × Int) (b : List (List Cell)) (o : Int) (w : Msg) : Msg × Int × Int :=
  thn (boolA b o) fun hh o1 =>
    if hh = true then thn (certA b o1) fun c o2 => thn (certA b o2) fun d o3 => fin1 Q ({ w with h := hh, bf := c.1, bt := c.2, ef := d.1, et := d.2 }, o3, 0)
    else thn (certA b o1) fun d o2 => fin1 Q ({ w with h := hh, ef := d.1, et := d.2 }, o2, 0)

theorem prog_bases (b : List (List Cell)) (o : Int) (w : Msg) : fin1 Q (rdAll b [[.int .i64 8], [.int .i64 9], [.int .i64 10]] o 0 w) = basesM Q b o w := by
  rw [step_thn (boolA b o) (fun v => { w with h := v }) rfl]
  unfold basesM
  refine thn_congr fun _ => ?_
  by_cases hh : (boolA b o).1 = true
  · rw [if_pos hh]
    rw [step_thn (certA b (boolA b o).2.1) (fun v => { w with h := (boolA b o).1, bf := v.1, bt := v.2 }) (by
      show (if (boolA b o).1 = true then _ else _) = _
      rw [if_pos hh]; rfl)]
    refine thn_congr fun _ => ?_
    rw [step_thn (certA b _) (fun v => { w with h := (boolA b o).1, bf := (certA b (boolA b o).2.1).1.1, bt := (certA b (boolA b o).2.1).1.2, ef := v.1, et := v.2 }) rfl]
    rfl
  · rw [if_neg hh]
    rw [rdAll]
    have : rdF b (boolA b o).2.1 0 { w with h := (boolA b o).1 } (nr [Cell.int .i64 9] 0) = ({ w with h := (boolA b o).1 }, (boolA b o).2.1, 0) := by
      show (if (boolA b o).1 = true then _ else _) = _
      rw [if_neg hh]
    rw [this]
    dsimp only
    rw [step_thn (certA b _) (fun v => { w with h := (boolA b o).1, ef := v.1, et := v.2 }) rfl]
    rfl

theorem ref_bases {b : List (List Cell)} {o : Int} (h : okAt b o = true) (w : Msg) : fin1 Q (shiftM o (rbW w (b.drop o.toNat))) = basesM Q b o w := by
  obtain ⟨h1, h2, h3⟩ := okAt_of h
  unfold rbW basesM boolA certA
  rw [finS_if, thn_step]
  by_cases he : (bdec (b.drop o.toNat)).2.2 = 0
  rotate_left
  · rw [if_pos he, if_pos he]
  rw [if_neg (nn he), if_neg (nn he)]
  obtain ⟨ho, hp⟩ := ok_step (z := false) ok_b h he
  by_cases hh : (bdec (b.drop o.toNat)).1 = true
  · rw [if_pos hh, if_pos hh, finS_if, thn_step, drop2 h2 hp]
    by_cases he2 : (decT2 (b.drop (o + (bdec (b.drop o.toNat)).2.1).toNat)).2.2 = 0
    rotate_left
    · rw [if_pos he2, if_pos he2]
    rw [if_neg (nn he2), if_neg (nn he2)]
    obtain ⟨ho2, hp2⟩ := ok_step (z := ([], [])) ok_t ho he2
    rw [finS_if, thn_step, drop2 h2 (by omega), ← Int.add_assoc o]
    by_cases he3 : (decT2 (b.drop (o + (bdec (b.drop o.toNat)).2.1 + (decT2 (b.drop (o + (bdec (b.drop o.toNat)).2.1).toNat)).2.1).toNat)).2.2 = 0
    rotate_left
    · rw [if_pos he3, if_pos he3]
    rw [if_neg (nn he3), if_neg (nn he3)]
    exact congrArg (fun z => fin1 Q (_, z, (0 : Int))) (by dsimp only; omega)
  · rw [if_neg hh, if_neg hh, finS_if, thn_step, drop2 h2 hp]
    by_cases he2 : (decT2 (b.drop (o + (bdec (b.drop o.toNat)).2.1).toNat)).2.2 = 0
    rotate_left
    · rw [if_pos he2, if_pos he2]
    rw [if_neg (nn he2), if_neg (nn he2)]
    exact congrArg (fun z => fin1 Q (_, z, (0 : Int))) (by dsimp only; omega)

def exchB (Q : Msg → Int → Msg × Int × Int) (b : List (List Cell)) (o : Int) (w : Msg) : Msg × Int × Int :=
  thn (cfgA b o) fun g o1 => thn (lstA b o1) fun u o2 => if w.k = 1 then fin1 Q ({ w with g := g, u := u }, o2, 0) else basesM Q b o2 { w with g := g, u := u }

theorem ref_exchB {b : List (List Cell)} {o a : Int} (h : okAt b o = true) (ha : okAt b (o + a) = true) (h0 : 0 ≤ a) (w : Msg) : fin1 Q (shiftM o (rxB w (b.drop o.toNat) a)) = exchB Q b (o + a) w := by
  obtain ⟨h1, h2, h3⟩ := okAt_of h
  unfold rxB exchB cfgA lstA
  dsimp only
  rw [finS_if, thn_step, drop2 h2 h0]
  by_cases he : (decC (b.drop (o + a).toNat)).2.2 = 0
  rotate_left
  · rw [if_pos he, if_pos he]
  rw [if_neg (nn he), if_neg (nn he)]
  obtain ⟨ho, hp⟩ := ok_step (z := ([] : List (List Cell))) ok_c ha he
  rw [finS_if, thn_step, drop2 h2 (by omega), ← Int.add_assoc o a]
  by_cases he2 : (decL (b.drop (o + a + (decC (b.drop (o + a).toNat)).2.1).toNat)).2.2 = 0
  rotate_left
  · rw [if_pos he2, if_pos he2]
  rw [if_neg (nn he2), if_neg (nn he2)]
  obtain ⟨ho2, hp2⟩ := ok_step (z := ([] : List (List Cell))) ok_l ho he2
  by_cases hk : w.k = 1
  · rw [if_pos hk, if_pos hk]
    exact congrArg (fun z => fin1 Q (_, z, (0 : Int))) (by dsimp only; omega)
  · rw [if_neg hk, if_neg hk, drop2 h2 (by omega)]
    rw [← ref_bases ho2]
    generalize hA : decC (b.drop (o + a).toNat) = A at *
    generalize hB : decL (b.drop (o + a + A.2.1).toNat) = B at *
    rw [show o + (a + A.2.1 + B.2.1) = o + a + A.2.1 + B.2.1 by omega]
    unfold shiftM
    dsimp only
    congr 2
    rw [← Int.add_assoc]
    congr 1
    omega

theorem prog_exch1 (b : List (List Cell)) (o : Int) (w : Msg) (hk : w.k = 1) (h : okAt b o = true) : fin1 Q (rdAll b [[.int .i64 0], [.int .i64 1], [.int .i64 2], [.int .i64 3], [.int .i64 4]] o 0 w) =
    chainN b 4 o [] fun l o1 => exchB Q b o1 { w with p := nr (Abs.rowAt l 0) 0, n := nr (Abs.rowAt l 1) 0, r := nr (Abs.rowAt l 2) 0, o := nr (Abs.rowAt l 3) 0 } := by
  rw [step_two, num_thn, chainN]
  refine thn_congr fun e1 => ?_
  obtain ⟨k1, _⟩ := numA_ok h e1
  rw [num_thn, chainN]
  refine thn_congr fun e2 => ?_
  obtain ⟨k2, _⟩ := numA_ok k1 e2
  rw [step_thn (rnumM b _ 0) (fun v => { w with p := (numA b o).1, n := (numA b (numA b o).2.1).1, r := v }) rfl, num_thn, chainN]
  refine thn_congr fun e3 => ?_
  obtain ⟨k3, _⟩ := numA_ok k2 e3
  rw [step_thn (rnumM b _ 0) (fun v => { w with p := (numA b o).1, n := (numA b (numA b o).2.1).1, r := (numA b (numA b (numA b o).2.1).2.1).1, o := v }) rfl, num_thn, chainN]
  refine thn_congr fun e4 => ?_
  obtain ⟨k4, _⟩ := numA_ok k3 e4
  rw [step_thn (cfgA b _) (fun v => { w with p := (numA b o).1, n := (numA b (numA b o).2.1).1, r := (numA b (numA b (numA b o).2.1).2.1).1, o := (numA b (numA b (numA b (numA b o).2.1).2.1).2.1).1, g := v }) rfl]
  show _ = exchB Q b _ { w with p := (numA b o).1, n := (numA b (numA b o).2.1).1, r := (numA b (numA b (numA b o).2.1).2.1).1, o := (numA b (numA b (numA b (numA b o).2.1).2.1).2.1).1 }
  unfold exchB
  refine thn_congr fun e5 => ?_
  have k5 : okAt b (cfgA b (numA b (numA b (numA b (numA b o).2.1).2.1).2.1).2.1).2.1 = true := mstep_ok bd_c k4
  rw [step_thn (rst b _ 0) (fun v => { w with p := (numA b o).1, n := (numA b (numA b o).2.1).1, r := (numA b (numA b (numA b o).2.1).2.1).1, o := (numA b (numA b (numA b (numA b o).2.1).2.1).2.1).1, g := (cfgA b (numA b (numA b (numA b (numA b o).2.1).2.1).2.1).2.1).1, u := v }) rfl]
  rw [rst_list k5]
  refine thn_congr fun e6 => ?_
  rw [if_pos (show _ = _ from hk)]
  rfl

theorem prog_exch2 (b : List (List Cell)) (o : Int) (w : Msg) (hk : w.k = 2) (h : okAt b o = true) : fin1 Q (rdAll b [[.int .i64 0], [.int .i64 1], [.int .i64 3], [.int .i64 4], [.int .i64 8], [.int .i64 9], [.int .i64 10]] o 0 w) =
    chainN b 3 o [] fun l o1 => exchB Q b o1 { w with p := nr (Abs.rowAt l 0) 0, n := nr (Abs.rowAt l 1) 0, r := nr (Abs.rowAt l 2) 0 } := by
  rw [step_two, num_thn, chainN]
  refine thn_congr fun e1 => ?_
  obtain ⟨k1, _⟩ := numA_ok h e1
  rw [num_thn, chainN]
  refine thn_congr fun e2 => ?_
  obtain ⟨k2, _⟩ := numA_ok k1 e2
  rw [step_thn (rnumM b _ 0) (fun v => { w with p := (numA b o).1, n := (numA b (numA b o).2.1).1, r := v }) rfl, num_thn, chainN]
  refine thn_congr fun e3 => ?_
  obtain ⟨k4, _⟩ := numA_ok k2 e3
  rw [step_thn (cfgA b _) (fun v => { w with p := (numA b o).1, n := (numA b (numA b o).2.1).1, r := (numA b (numA b (numA b o).2.1).2.1).1, g := v }) rfl]
  show _ = exchB Q b _ { w with p := (numA b o).1, n := (numA b (numA b o).2.1).1, r := (numA b (numA b (numA b o).2.1).2.1).1 }
  unfold exchB
  refine thn_congr fun e5 => ?_
  have k5 : okAt b (cfgA b (numA b (numA b (numA b o).2.1).2.1).2.1).2.1 = true := mstep_ok bd_c k4
  rw [step_thn (rst b _ 0) (fun v => { w with p := (numA b o).1, n := (numA b (numA b o).2.1).1, r := (numA b (numA b (numA b o).2.1).2.1).1, g := (cfgA b (numA b (numA b (numA b o).2.1).2.1).2.1).1, u := v }) rfl]
  rw [rst_list k5]
  refine thn_congr fun e6 => ?_
  rw [if_neg (show ¬ _ = _ by rw [hk]; decide), prog_bases]

theorem ref_exch {b : List (List Cell)} {o : Int} (h : okAt b o = true) (w : Msg) : fin1 Q (shiftM o (rxW w (b.drop o.toNat))) =
    chainN b (if w.k = 1 then 4 else 3 : Int).toNat o [] fun l o1 => exchB Q b o1 { w with p := nr (Abs.rowAt l 0) 0, n := nr (Abs.rowAt l 1) 0, r := nr (Abs.rowAt l 2) 0, o := if w.k = 1 then nr (Abs.rowAt l 3) 0 else w.o } := by
  obtain ⟨h1, h2, h3⟩ := okAt_of h
  have hc := chain_rdM h1 h2 (fun l o1 => exchB Q b o1 { w with p := nr (Abs.rowAt l 0) 0, n := nr (Abs.rowAt l 1) 0, r := nr (Abs.rowAt l 2) 0, o := if w.k = 1 then nr (Abs.rowAt l 3) 0 else w.o }) (if w.k = 1 then 4 else 3 : Int).toNat 0 [] (by omega) (by omega)
  rw [Int.add_zero] at hc
  rw [← hc]
  unfold rxW
  dsimp only
  rw [finS_if]
  unfold rread
  by_cases he : (rreadF (b.drop o.toNat) (if w.k = 1 then 4 else 3 : Int).toNat 0 []).2.2 = 0
  · have hr := rreadF_bound (b.drop o.toNat) (okRd_drop h1 o.toNat) (if w.k = 1 then 4 else 3 : Int).toNat 0 [] (by omega) (by omega) he
    rw [List.length_drop] at hr
    rw [if_neg (nn he), thn_ok3 he]
    exact ref_exchB h (okAt_mk h1 (by omega) (by omega)) hr.1 _
  · rw [if_pos he, thn_err3 he]

end Go.Proofs.YtejimgikldiajaaGreat

namespace Go.Proofs.YtejimgikldiajaaGreat

open Go.Abs

variable {Q : Msg → Int → Msg × Int × Int}

def restM (Q : Msg → Int → Msg × Int × Int) (b : List (List Cell)) (o : Int) (w : Msg) : Msg × Int × Int :=
  thn (certA b o) fun c o1 =>
    if w.k = 4 then thn (numA b o1) fun n o2 => if 100 < n then (noMsg, 0, 3) else chainN b (2 * n.toNat) o2 [] fun l o3 => fin1 Q ({ w with cf := c.1, ct := c.2, v := pairs l n.toNat 0 }, o3, 0)
    else if w.k = 5 then thn (lstA b o1) fun u o2 => thn (boolA b o2) fun q o3 => basesM Q b o3 { w with cf := c.1, ct := c.2, u := u, m := q }
    else fin1 Q ({ w with cf := c.1, ct := c.2 }, o1, 0)

theorem prog_rest (b : List (List Cell)) (o : Int) (w : Msg) (h : okAt b o = true) (hk : w.k = 3 ∨ w.k = 4 ∨ w.k = 5 ∨ w.k = 6 ∨ w.k = 7 ∨ w.k = 8) : fin1 Q (rdAll b (usedR w.k) o 0 w) = restM Q b o w := by
  have one : (w.k = 3 ∨ w.k = 6 ∨ w.k = 7 ∨ w.k = 8) → usedR w.k = [[.int .i64 5]] → fin1 Q (rdAll b (usedR w.k) o 0 w) = restM Q b o w := by
    intro hk hu
    rw [hu, step_thn (certA b o) (fun v => { w with cf := v.1, ct := v.2 }) rfl]
    unfold restM
    refine thn_congr fun _ => ?_
    rw [if_neg (by omega), if_neg (by omega)]
    rfl
  rcases hk with hk | hk | hk | hk | hk | hk
  · exact one (by omega) (by rw [hk]; rfl)
  · have hu : usedR w.k = [[.int .i64 5], [.int .i64 6]] := by rw [hk]; rfl
    rw [hu, step_thn (certA b o) (fun v => { w with cf := v.1, ct := v.2 }) rfl]
    unfold restM
    refine thn_congr fun he => ?_
    rw [if_pos hk, step_thn (rvc b _ 0) (fun v => { w with cf := (certA b o).1.1, ct := (certA b o).1.2, v := v }) rfl, rvc_chain]
    rfl
  · have hu : usedR w.k = [[.int .i64 5], [.int .i64 4], [.int .i64 7], [.int .i64 8], [.int .i64 9], [.int .i64 10]] := by rw [hk]; rfl
    rw [hu, step_thn (certA b o) (fun v => { w with cf := v.1, ct := v.2 }) rfl]
    unfold restM
    refine thn_congr fun he => ?_
    have k1 : okAt b (certA b o).2.1 = true := mstep_ok bd_t h
    rw [if_neg (by omega), if_pos hk, step_thn (rst b _ 0) (fun v => { w with cf := (certA b o).1.1, ct := (certA b o).1.2, u := v }) rfl, rst_list k1]
    refine thn_congr fun he2 => ?_
    rw [step_thn (boolA b _) (fun v => { w with cf := (certA b o).1.1, ct := (certA b o).1.2, u := (lstA b (certA b o).2.1).1, m := v }) rfl]
    refine thn_congr fun he3 => ?_
    rw [prog_bases]
  · exact one (by omega) (by rw [hk]; rfl)
  · exact one (by omega) (by rw [hk]; rfl)
  · exact one (by omega) (by rw [hk]; rfl)

theorem ref_rest {b : List (List Cell)} {o : Int} (h : okAt b o = true) (w : Msg) (hv : w.v = []) : fin1 Q (shiftM o (rrW w (b.drop o.toNat))) = restM Q b o w := by
  obtain ⟨h1, h2, h3⟩ := okAt_of h
  unfold rrW restM certA
  dsimp only
  rw [finS_if, thn_step]
  by_cases he : (decT2 (b.drop o.toNat)).2.2 = 0
  rotate_left
  · rw [if_pos he, if_pos he]
  rw [if_neg (nn he), if_neg (nn he)]
  obtain ⟨ho, hp⟩ := ok_step (z := (([], []) : List (List Cell) × List (List Cell))) ok_t h he
  generalize hC : decT2 (b.drop o.toNat) = C at *
  by_cases k4 : w.k = 4
  · rw [if_pos k4, if_pos k4]
    unfold rhW numA
    dsimp only
    rw [finS_if, thn_step, drop2 h2 hp]
    by_cases he2 : (rnum2 (b.drop (o + C.2.1).toNat)).2.2 = 0
    rotate_left
    · rw [if_pos he2, if_pos he2]
    rw [if_neg (nn he2), if_neg (nn he2)]
    obtain ⟨ho2, hp2⟩ := ok_step (z := (0 : Int)) ok_n ho he2
    have hb := rnum2_bound (okRd_of (okRd_drop h1 (o + C.2.1).toNat)).1 he2
    by_cases h100 : 100 < (rnum2 (b.drop (o + C.2.1).toNat)).1
    · rw [if_pos h100, if_pos h100]
      exact fin1_err (p := ({ w with cf := C.1.1, ct := C.1.2 }, o + 0, 3)) (show (3 : Int) ≠ 0 by decide)
    rw [if_neg h100, if_neg h100, drop2 h2 (by omega), finS_if]
    generalize hD : rnum2 (b.drop (o + C.2.1).toNat) = D at *
    obtain ⟨g1, g2, g3⟩ := okAt_of ho2
    have hc := chain_rdM h1 g2 (fun l o3 => fin1 Q ({ w with cf := C.1.1, ct := C.1.2, v := pairs l D.1.toNat 0 }, o3, 0)) (2 * D.1.toNat) 0 [] (by omega) (by omega)
    rw [Int.add_zero] at hc
    rw [← hc]
    unfold rread
    rw [show (2 * D.1).toNat = 2 * D.1.toNat by omega, show o + (C.2.1 + D.2.1) = o + C.2.1 + D.2.1 by omega]
    by_cases he3 : (rreadF (b.drop (o + C.2.1 + D.2.1).toNat) (2 * D.1.toNat) 0 []).2.2 = 0
    · rw [if_neg (nn he3), thn_ok3 he3]
      unfold shiftM
      dsimp only
      rw [hv, List.nil_append]
      exact congrArg (fun z => fin1 Q (_, z, (0 : Int))) (by omega)
    · rw [if_pos he3, thn_err3 he3]
  rw [if_neg k4, if_neg k4]
  by_cases k5 : w.k = 5
  · rw [if_pos k5, if_pos k5]
    unfold rcW lstA
    dsimp only
    rw [finS_if, thn_step, drop2 h2 hp]
    by_cases he2 : (decL (b.drop (o + C.2.1).toNat)).2.2 = 0
    rotate_left
    · rw [if_pos he2, if_pos he2]
    rw [if_neg (nn he2), if_neg (nn he2)]
    obtain ⟨ho2, hp2⟩ := ok_step (z := ([] : List (List Cell))) ok_l ho he2
    generalize hD : decL (b.drop (o + C.2.1).toNat) = D at *
    unfold boolA
    rw [finS_if, thn_step, drop2 h2 (by omega), show o + (C.2.1 + D.2.1) = o + C.2.1 + D.2.1 by omega]
    by_cases he3 : (bdec (b.drop (o + C.2.1 + D.2.1).toNat)).2.2 = 0
    rotate_left
    · rw [if_pos he3, if_pos he3]
    rw [if_neg (nn he3), if_neg (nn he3)]
    obtain ⟨ho3, hp3⟩ := ok_step (z := false) ok_b ho2 he3
    generalize hE : bdec (b.drop (o + C.2.1 + D.2.1).toNat) = E at *
    rw [drop2 h2 (by omega), show o + (C.2.1 + D.2.1 + E.2.1) = o + C.2.1 + D.2.1 + E.2.1 by omega, ← ref_bases ho3]
    unfold shiftM
    dsimp only
    exact congrArg (fun z => fin1 Q (_, z, _)) (by omega)
  · rw [if_neg k5, if_neg k5]
    rfl

theorem body_same {b : List (List Cell)} {o : Int} (h : okAt b o = true) (w : Msg) (hk : 1 ≤ w.k ∧ w.k ≤ 8) (hv : w.v = []) : fin1 Q (shiftM o (bodyR w (b.drop o.toNat))) = fin1 Q (rdAll b (usedR w.k) o 0 w) := by
  unfold bodyR
  by_cases k1 : w.k = 1
  · rw [if_pos (Or.inl k1), ref_exch h]
    have hu : usedR w.k = [[.int .i64 0], [.int .i64 1], [.int .i64 2], [.int .i64 3], [.int .i64 4]] := by rw [k1]; rfl
    rw [hu, prog_exch1 b o w k1 h]
    simp only [if_pos k1]
    rfl
  by_cases k2 : w.k = 2
  · rw [if_pos (Or.inr k2), ref_exch h]
    have hu : usedR w.k = [[.int .i64 0], [.int .i64 1], [.int .i64 3], [.int .i64 4], [.int .i64 8], [.int .i64 9], [.int .i64 10]] := by rw [k2]; rfl
    rw [hu, prog_exch2 b o w k2 h]
    simp only [if_neg k1]
    rfl
  · rw [if_neg (by omega), ref_rest h w hv, prog_rest b o w h (by omega)]

def topM (Q : Msg → Int → Msg × Int × Int) (b : List (List Cell)) : Msg × Int × Int :=
  thn (numA b 0) fun k o1 => if k < 1 ∨ 8 < k then (noMsg, 0, 10) else thn (numA b o1) fun f o2 => thn (numA b o2) fun t o3 => fin1 Q (rdAll b (usedR k) o3 0 { noMsg with k := k, f := f, t := t })

def endM (w : Msg) (o : Int) : Msg × Int × Int := if vMsg w ≠ 0 then (noMsg, 0, vMsg w) else (w, o, 0)

theorem finM_eq (p : Msg × Int × Int) : finM p = fin1 endM p := by
  unfold finM fin1 thn endM
  by_cases h : p.2.2 = 0
  · rw [if_neg (nn h), if_neg (nn h)]
    by_cases hv : vMsg p.1 = 0
    · rw [if_neg (nn hv), if_neg (nn hv), ← h]
    · rw [if_pos hv, if_pos hv]
  · rw [if_pos h, if_pos h]

theorem usedL_in {k : Int} (h : ¬ (k < 1 ∨ 8 < k)) : (usedL k).isNone = false := by
  have : k = 1 ∨ k = 2 ∨ k = 3 ∨ k = 4 ∨ k = 5 ∨ k = 6 ∨ k = 7 ∨ k = 8 := by omega
  rcases this with rfl | rfl | rfl | rfl | rfl | rfl | rfl | rfl <;> rfl

theorem prog_top {b : List (List Cell)} (hb : okRd b = true) : decM b = topM endM b := by
  have h0 : okAt b 0 = true := okAt_mk hb (by omega) (by omega)
  unfold decM topM
  dsimp only
  rw [finM_eq]
  obtain ⟨m1, m2⟩ := numM_A (b := b) (o := 0)
  by_cases he : (numA b 0).2.2 = 0
  rotate_left
  · rw [thn_err he]
    have e1 : (rnumM b 0 0).2.2 ≠ 0 := by rw [m1]; exact he
    have e2 : failE (usedL (rnumM b 0 0).1).isNone 10 (rnumM b 0 0).2.2 = (rnumM b 0 0).2.2 := failE_e e1
    rw [e2]
    have e3 := rnumM_e (b := b) (o := (rnumM b 0 0).2.1) e1
    have e4 := rnumM_e (b := b) (o := (rnumM b (rnumM b 0 0).2.1 (rnumM b 0 0).2.2).2.1) (show (rnumM b (rnumM b 0 0).2.1 (rnumM b 0 0).2.2).2.2 ≠ 0 by rw [e3]; exact e1)
    rw [fin_e (show (rnumM b (rnumM b (rnumM b 0 0).2.1 (rnumM b 0 0).2.2).2.1 (rnumM b (rnumM b 0 0).2.1 (rnumM b 0 0).2.2).2.2).2.2 ≠ 0 by rw [e4, e3]; exact e1), e4, e3, m1]
  rw [thn_ok he, m2 he, he]
  obtain ⟨k1, _⟩ := numA_ok h0 he
  generalize numA b 0 = A at *
  by_cases hk : A.1 < 1 ∨ 8 < A.1
  · rw [if_pos hk, usedL_no hk]
    have e2 : failE (none : Option (List Int)).isNone 10 0 = 10 := rfl
    rw [e2]
    have e3 := rnumM_e (b := b) (o := A.2.1) (e := 10) (by decide)
    have e4 := rnumM_e (b := b) (o := (rnumM b A.2.1 10).2.1) (show (rnumM b A.2.1 10).2.2 ≠ 0 by rw [e3]; decide)
    rw [fin_e (show (rnumM b (rnumM b A.2.1 10).2.1 (rnumM b A.2.1 10).2.2).2.2 ≠ 0 by rw [e4, e3]; decide), e4, e3]
  rw [if_neg hk, usedL_in hk]
  have e2 : failE false 10 0 = 0 := rfl
  rw [e2]
  obtain ⟨n1, n2⟩ := numM_A (b := b) (o := A.2.1)
  by_cases he2 : (numA b A.2.1).2.2 = 0
  rotate_left
  · rw [thn_err he2]
    have e1 : (rnumM b A.2.1 0).2.2 ≠ 0 := by rw [n1]; exact he2
    have e3 := rnumM_e (b := b) (o := (rnumM b A.2.1 0).2.1) e1
    rw [fin_e (show (rnumM b (rnumM b A.2.1 0).2.1 (rnumM b A.2.1 0).2.2).2.2 ≠ 0 by rw [e3]; exact e1), e3, n1]
  rw [thn_ok he2, n2 he2, he2]
  obtain ⟨k2, _⟩ := numA_ok k1 he2
  generalize numA b A.2.1 = B at *
  obtain ⟨q1, q2⟩ := numM_A (b := b) (o := B.2.1)
  by_cases he3 : (numA b B.2.1).2.2 = 0
  rotate_left
  · rw [thn_err he3]
    have e1 : (rnumM b B.2.1 0).2.2 ≠ 0 := by rw [q1]; exact he3
    rw [fin_e e1, q1]
  rw [thn_ok he3, q2 he3, he3]

theorem ref_top {b : List (List Cell)} (hb : okRd b = true) : decMR b = topM endM b := by
  have h0 : okAt b 0 = true := okAt_mk hb (by omega) (by omega)
  unfold decMR topM numA
  dsimp only
  rw [thn_step, show b.drop (0 : Int).toNat = b from rfl, Int.zero_add]
  by_cases he : (rnum2 b).2.2 = 0
  rotate_left
  · rw [if_pos he, if_pos he]
  rw [if_neg (nn he), if_neg (nn he)]
  by_cases hk : (rnum2 b).1 < 1 ∨ 8 < (rnum2 b).1
  · rw [if_pos hk, if_pos hk]
  rw [if_neg hk, if_neg hk]
  obtain ⟨k1, hp⟩ := ok_step (z := (0 : Int)) (o := 0) ok_n h0 he
  rw [show b.drop (0 : Int).toNat = b from rfl, Int.zero_add] at k1
  rw [show b.drop (0 : Int).toNat = b from rfl] at hp
  obtain ⟨g1, g2, g3⟩ := okAt_of k1
  generalize rnum2 b = A at *
  have hc := chain_rdM g1 g2 (fun l o3 => fin1 endM (shiftM o3 (bodyR { noMsg with k := A.1, f := nr (Abs.rowAt l 0) 0, t := nr (Abs.rowAt l 1) 0 } (b.drop o3.toNat)))) 2 0 [] (by omega) (by omega)
  rw [Int.add_zero] at hc
  have hl : (if (rread (b.drop A.2.1.toNat) 2).2.2 ≠ 0 then (noMsg, 0, (rread (b.drop A.2.1.toNat) 2).2.2)
      else finM (shiftM (A.2.1 + (rread (b.drop A.2.1.toNat) 2).2.1) (bodyR { noMsg with k := A.1, f := nr (Abs.rowAt (rread (b.drop A.2.1.toNat) 2).1 0) 0, t := nr (Abs.rowAt (rread (b.drop A.2.1.toNat) 2).1 1) 0 } (b.drop (A.2.1 + (rread (b.drop A.2.1.toNat) 2).2.1).toNat)))) =
      chainN b 2 A.2.1 [] (fun l o3 => fin1 endM (shiftM o3 (bodyR { noMsg with k := A.1, f := nr (Abs.rowAt l 0) 0, t := nr (Abs.rowAt l 1) 0 } (b.drop o3.toNat)))) := by
    rw [← hc, finM_eq]
    unfold rread
    rfl
  rw [hl, chainN]
  unfold numA
  refine thn_congr fun e2 => ?_
  obtain ⟨k2, _⟩ := numA_ok k1 e2
  show chainN b 1 (numA b A.2.1).2.1 _ _ = thn (numA b (numA b A.2.1).2.1) _
  rw [chainN]
  refine thn_congr fun e3 => ?_
  obtain ⟨k3, _⟩ := numA_ok k2 e3
  exact body_same k3 { noMsg with k := A.1, f := (numA b A.2.1).1, t := (numA b (numA b A.2.1).2.1).1 } (by dsimp only; omega) rfl

theorem dec_same {b : List (List Cell)} (hb : okRd b = true) : decMR b = decM b := (ref_top hb).trans (prog_top hb).symm

theorem rdAll_ok {b : List (List Cell)} : ∀ (l : List (List Cell)) (o e : Int) (w : Msg), okAt b o = true → okW w = true → okAt b (rdAll b l o e w).2.1 = true ∧ okW (rdAll b l o e w).1 = true
  | [], o, e, w, h, hw => ⟨h, hw⟩
  | r :: l, o, e, w, h, hw => by
    have := rdF_ok (f := nr r 0) (e := e) h hw
    rw [rdAll]
    exact rdAll_ok l _ _ _ this.1 this.2

theorem body_ok {b : List (List Cell)} {o : Int} (h : okAt b o = true) (w : Msg) (hk : 1 ≤ w.k ∧ w.k ≤ 8) (hv : w.v = []) (hw : okW w = true) (he : (bodyR w (b.drop o.toNat)).2.2 = 0) :
    okAt b (o + (bodyR w (b.drop o.toNat)).2.1) = true ∧ okW (bodyR w (b.drop o.toNat)).1 = true := by
  have hs := body_same (Q := fun w' o' => (w', o', 0)) h w hk hv
  have hr := rdAll_ok (usedR w.k) o 0 w h hw
  have h1 : fin1 (fun w' o' => (w', o', 0)) (shiftM o (bodyR w (b.drop o.toNat))) = ((bodyR w (b.drop o.toNat)).1, o + (bodyR w (b.drop o.toNat)).2.1, 0) := thn_ok (p := shiftM o (bodyR w (b.drop o.toNat))) he
  rw [h1] at hs
  by_cases h2 : (rdAll b (usedR w.k) o 0 w).2.2 = 0
  · have h3 : fin1 (fun w' o' => (w', o', 0)) (rdAll b (usedR w.k) o 0 w) = ((rdAll b (usedR w.k) o 0 w).1, (rdAll b (usedR w.k) o 0 w).2.1, 0) := thn_ok h2
    rw [h3] at hs
    injection hs with s1 s2
    injection s2 with s2 _
    rw [s1, s2]
    exact hr
  · rw [fin1_err h2] at hs
    injection hs with _ s2
    injection s2 with _ s2
    exact absurd s2.symm h2

end Go.Proofs.YtejimgikldiajaaGreat

namespace Go.Proofs.YtejimgikldiajaaGreat

open Go.Abs

theorem decM_ok {x : List (List Cell)} (hx : okRd x = true) : okW (decM x).1 = true ∧ ((decM x).2.2 = 0 → okAt x (decM x).2.1 = true) := by
  have h0 : okAt x 0 = true := okAt_mk hx (by omega) (by omega)
  have h1 : okAt x (rnumM x 0 0).2.1 = true := rnumM_ok h0
  unfold decM
  dsimp only
  have h2 := rnumM_ok (e := failE (usedL (rnumM x 0 0).1).isNone 10 (rnumM x 0 0).2.2) h1
  have h3 := rnumM_ok (e := (rnumM x (rnumM x 0 0).2.1 (failE (usedL (rnumM x 0 0).1).isNone 10 (rnumM x 0 0).2.2)).2.2) h2
  have h4 := fun w hw => rdAll_ok (usedR (rnumM x 0 0).1) _ (rnumM x (rnumM x (rnumM x 0 0).2.1 (failE (usedL (rnumM x 0 0).1).isNone 10 (rnumM x 0 0).2.2)).2.1 (rnumM x (rnumM x 0 0).2.1 (failE (usedL (rnumM x 0 0).1).isNone 10 (rnumM x 0 0).2.2)).2.2).2.2 w h3 hw
  generalize failE (usedL (rnumM x 0 0).1).isNone 10 (rnumM x 0 0).2.2 = E1 at *
  have h5 := h4 { noMsg with k := (rnumM x 0 0).1, f := (rnumM x (rnumM x 0 0).2.1 E1).1, t := (rnumM x (rnumM x (rnumM x 0 0).2.1 E1).2.1 (rnumM x (rnumM x 0 0).2.1 E1).2.2).1 } rfl
  unfold finM
  split
  · exact ⟨rfl, fun h => absurd h (by assumption)⟩
  · split
    · exact ⟨rfl, fun h => absurd h (by assumption)⟩
    · exact ⟨h5.2, fun _ => h5.1⟩

theorem tail_same {x : List (List Cell)} {a : Int} {q : Msg × Int × Int} (hx : okRd x = true) (ha : okAt x a = true) (hq : q.2.2 = 0 → okAt x (a + q.2.1) = true ∧ okW q.1 = true) :
    cond (q.2.2 != 0) (resM (noMsg, 0, q.2.2)) (cond (okW q.1) (cond (vMsg q.1 != 0) (resM (noMsg, 0, vMsg q.1)) (resM (q.1, IntKind.wrap .i64 (a + q.2.1), 0))) none) = resM (finM (shiftM a q)) := by
  have hl := (okRd_of hx).2
  unfold finM shiftM
  refine cne (fun h => ?_) fun h => ?_
  · rw [if_pos (show _ ≠ _ from h)]
  · rw [if_neg (nn h)]
    obtain ⟨h1, h2⟩ := hq h
    obtain ⟨_, g2, g3⟩ := okAt_of h1
    refine ct h2 (cne (fun hv => ?_) fun hv => ?_)
    · rw [if_pos (show _ ≠ _ from hv)]
    · rw [if_neg (nn hv), wrap64 (by omega) (by omega)]
      rw [h]

theorem k11 (x : List (List Cell)) (hx : okRd x = true) : runF E (callOf L36) 1 11 [.one (.sl false 5 x)] [] = resM (decM x) := by
  rw [← dec_same hx, e11, hx]
  simp only [dropN_eq]
  have hl := (okRd_of hx).2
  have h0 : okAt x 0 = true := okAt_mk hx (by omega) (by omega)
  unfold decMR
  dsimp only
  refine ct rfl (cne (fun h => ?_) fun h => ?_)
  · rw [if_pos (show _ ≠ _ from h)]; rfl
  rw [if_neg (nn h)]
  by_cases hk1 : (rnum2 x).1 < 1
  · rw [if_pos (Or.inl hk1)]; exact ct (decide_eq_true hk1) rfl
  refine cf (decide_eq_false hk1) ?_
  by_cases hk2 : (rnum2 x).1 > 8
  · rw [if_pos (Or.inr hk2)]; exact ct (decide_eq_true hk2) rfl
  refine cf (decide_eq_false hk2) ?_
  rw [if_neg (by omega)]
  obtain ⟨k1, hp⟩ := ok_step (z := (0 : Int)) (o := 0) ok_n h0 h
  rw [show x.drop (0 : Int).toNat = x from rfl, Int.zero_add] at k1
  rw [show x.drop (0 : Int).toNat = x from rfl] at hp
  obtain ⟨_, g2, g3⟩ := okAt_of k1
  refine ct (inB_of (by omega) (by omega)) (ct (ok2p (okRd_drop hx _) (show (2 : Int) ≤ 1000 by decide)) (cne (fun h2 => ?_) fun h2 => ?_))
  · rw [if_pos (show _ ≠ _ from h2)]; rfl
  rw [if_neg (nn h2)]
  have hr := rread_bound (okRd_drop hx (rnum2 x).2.1.toNat) h2
  rw [List.length_drop] at hr
  obtain ⟨r1, r2, r3, r4⟩ := hr
  have k2 : okAt x ((rnum2 x).2.1 + (rread (x.drop (rnum2 x).2.1.toNat) 2).2.1) = true := okAt_mk hx (by omega) (by omega)
  have hw : IntKind.wrap .i64 ((rnum2 x).2.1 + (rread (x.drop (rnum2 x).2.1.toNat) 2).2.1) = (rnum2 x).2.1 + (rread (x.drop (rnum2 x).2.1.toNat) 2).2.1 := wrap64 (by omega) (by omega)
  rw [hw]
  have hb := body_ok k2 { noMsg with k := (rnum2 x).1, f := nr (Abs.rowAt (rread (x.drop (rnum2 x).2.1.toNat) 2).1 0) 0, t := nr (Abs.rowAt (rread (x.drop (rnum2 x).2.1.toNat) 2).1 1) 0 } (by dsimp only; omega) rfl rfl
  have hs := fun (q : Msg × Int × Int) hq => tail_same (q := q) hx k2 hq
  refine ct (inB_of (by omega) (by omega)) (ct (inB_of (by omega) (by omega)) ?_)
  generalize rread (x.drop (rnum2 x).2.1.toNat) 2 = L at *
  generalize hA : (rnum2 x).2.1 + L.2.1 = A at *
  have hin : inB A (x.length + 1) = true := inB_of (by omega) (by omega)
  have hok : okRd (x.drop A.toNat) = true := okRd_drop hx _
  generalize hW : ({ noMsg with k := (rnum2 x).1, f := nr (Abs.rowAt L.1 0) 0, t := nr (Abs.rowAt L.1 1) 0 } : Msg) = W at *
  have wk : W.k = (rnum2 x).1 := by rw [← hW]
  unfold bodyR at hb ⊢
  by_cases e1 : (rnum2 x).1 = 1
  · rw [if_pos (Or.inl (by omega))] at hb ⊢
    refine ct (beq_iff_eq.2 e1) (ct hin (ct hok ?_))
    rw [← hs _ hb, ← hW]
    rfl
  refine cf (beq_false_of_ne e1) ?_
  by_cases e2 : (rnum2 x).1 = 2
  · rw [if_pos (Or.inr (by omega))] at hb ⊢
    refine ct (beq_iff_eq.2 e2) (ct hin (ct hok ?_))
    rw [← hs _ hb, ← hW]
    rfl
  refine cf (beq_false_of_ne e2) ?_
  rw [if_neg (by omega)] at hb ⊢
  refine ct hin (ct hok ?_)
  rw [← hs _ hb, ← hW]
  rfl

def eqW (w z : Msg) : Bool := eqM w.k w.f w.t w.p w.n w.r w.o w.cf w.ct w.bf w.bt w.h w.ef w.et w.g w.u w.v w.m z.k z.f z.t z.p z.n z.r z.o z.cf z.ct z.bf z.bt z.h z.ef z.et z.g z.u z.v z.m

theorem k12 (w z : Msg) (hg : okW w = true) : runF E (callOf L11) 1 12 [msgV w, msgV z] [] = some ([.one (.bool (eqW w z))], []) := by
  obtain ⟨g1', g2', g3, g4, g5, g6, g7, g8, g9⟩ := okW_of hg
  unfold msgV
  rw [e12, g1', g2', g3, g4, g5, g6, g7, g8, g9]
  unfold eqW eqM
  simp only [bne, Bool.and_true]
  generalize (w.k == z.k) = b1
  generalize (w.f == z.f) = b2
  generalize (w.t == z.t) = b3
  generalize (w.p == z.p) = b4
  generalize (w.n == z.n) = b5
  generalize (w.r == z.r) = b6
  generalize (w.o == z.o) = b7
  generalize (w.h == z.h) = b8
  generalize (w.m == z.m) = b9
  generalize (eqCfg w.cf z.cf && eqCfg w.ct z.ct) = b10
  generalize (eqCfg w.bf z.bf && eqCfg w.bt z.bt) = b11
  generalize (eqCfg w.ef z.ef && eqCfg w.et z.et) = b12
  generalize eqCfg w.g z.g = b13
  generalize eqSt w.u z.u = b14
  generalize eqVec w.v z.v = b15
  clear hg g1' g2' g3 g4 g5 g6 g7 g8 g9
  cases b1 <;> cases b2 <;> cases b3 <;> cases b4 <;> cases b5 <;> (try rfl) <;> cases b6 <;> cases b7 <;> (try rfl) <;> cases b8 <;> cases b9 <;> (try rfl) <;> cases b10 <;> cases b11 <;> (try rfl) <;> cases b12 <;> cases b13 <;> (try rfl) <;> cases b14 <;> rfl

theorem eqW_refl (w : Msg) : eqW w w = true := by
  unfold eqW eqM
  simp [eqCfg_refl, eqSt_refl, eqVec_refl]

theorem k6 (w : Msg) : runF E (callOf L12) 1 6 [msgV w] [] = some ([.one (.bool (shortM w.cf w.ct w.bf w.bt w.ef w.et w.g w.u w.v))], []) := by
  unfold msgV
  rw [e6]
  have c30 : ∀ l : List (List Cell), decide ((l.length : Int) ≤ 30) = decide (l.length ≤ 30) := fun l => decide_eq_decide.2 (by omega)
  have c60 : ∀ l : List (List Cell), decide ((l.length : Int) ≤ 60) = decide (l.length ≤ 60) := fun l => decide_eq_decide.2 (by omega)
  simp only [c30, c60]
  unfold shortM
  cases decide (w.g.length ≤ 30) <;> cases decide (w.u.length ≤ 60) <;> cases decide (w.v.length ≤ 60) <;> (try rfl) <;> cases decide (w.cf.length ≤ 30) <;> cases decide (w.ct.length ≤ 30) <;> (try rfl) <;> cases decide (w.bf.length ≤ 30) <;> cases decide (w.bt.length ≤ 30) <;> (try rfl) <;> cases decide (w.ef.length ≤ 30) <;> rfl

theorem short_ok {w : Msg} (hs : shortM w.cf w.ct w.bf w.bt w.ef w.et w.g w.u w.v = true) (ha : okArgM w.cf w.ct w.bf w.bt w.ef w.et w.g w.u w.v = true) : okW w = true := by
  unfold shortM at hs
  unfold okArgM at ha
  simp only [Bool.and_eq_true, decide_eq_true_eq] at hs ha
  obtain ⟨s1, s2, s3, s4, s5, s6, s7, s8, s9⟩ := hs
  obtain ⟨⟨a1, a2⟩, ⟨a3, a4⟩, ⟨a5, a6⟩, a7, a8⟩ := ha
  unfold okW okM
  rw [okRows_mk (by omega) a1, okRows_mk (by omega) a2, okRows_mk (by omega) a3, okRows_mk (by omega) a4, okRows_mk (by omega) a5, okRows_mk (by omega) a6, okRows_mk (by omega) a7, okRows_mkU (by omega) a8, okLn_mk (by omega)]
  rfl

theorem law3 (w : Msg) (ha : okArgM w.cf w.ct w.bf w.bt w.ef w.et w.g w.u w.v = true) : runF E (callOf L7) 1 3 [msgV w] [] = some ([.one (.bool true)], []) := by
  unfold msgV
  rw [e3]
  refine cs (fun _ => rfl) fun q1 => ?_
  have hok : okW w = true := short_ok (by simpa using q1) ha
  exact ct hok (ct hok (ct (beq_iff_eq.2 rfl) rfl))

theorem law4 (x : List (List Cell)) (hx : okB x = true) : runF E (callOf L3) 1 4 [.one (.sl false 5 x)] [] = some ([.one (.bool true)], []) := by
  rw [e4]
  refine cs (fun _ => rfl) fun q1 => ?_
  have hl : x.length ≤ 600 := by have := of_decide_eq_false q1; omega
  have ho : okRd x = true := by
    unfold okRd okLen
    rw [hx, decide_eq_true (by omega)]
    rfl
  exact ct ho (ct ho (ct (decM_ok ho).1 (ct (eqW_refl (decM x).1) (ct (beq_iff_eq.2 rfl) (ct (beq_iff_eq.2 rfl) rfl)))))

end Go.Proofs.YtejimgikldiajaaGreat

namespace Go.Proofs.YtejimgikldiajaaGreat

open Go.Abs

set_option maxRecDepth 20000

theorem aw : run E 200 7 [] [] = (true, ([.one (.bool true)], [])) := by kernel_rfl

end Go.Proofs.YtejimgikldiajaaGreat

namespace Go.Proofs.YtejimgikldiajaaGreat

open Go.Abs

theorem v138 : ∀ args blk r, s138 args blk = (true, r) → ∃ n, runF E (callOf L) n 138 args blk = some r ∨ run E n 138 args blk = (true, r) := by
  intro args blk r h
  unfold s138 at h
  split at h
  · obtain ⟨g, rfl⟩ := guarded h
    exact ⟨1, .inl (k138 _ _ _ _)⟩
  · cases h

theorem v139 : ∀ args blk r, s139 args blk = (true, r) → ∃ n, runF E (callOf L138) n 139 args blk = some r ∨ run E n 139 args blk = (true, r) := by
  intro args blk r h
  unfold s139 at h
  split at h
  · obtain ⟨g, rfl⟩ := guarded h
    exact ⟨1, .inl (k139 _ _ _)⟩
  · cases h

theorem v65 : ∀ args blk r, s65 args blk = (true, r) → ∃ n, runF E (callOf L139) n 65 args blk = some r ∨ run E n 65 args blk = (true, r) := by
  intro args blk r h
  unfold s65 at h
  split at h
  · obtain ⟨g, rfl⟩ := guarded h
    exact ⟨1, .inl (k65 _)⟩
  · cases h

theorem v67 : ∀ args blk r, s67 args blk = (true, r) → ∃ n, runF E (callOf L65) n 67 args blk = some r ∨ run E n 67 args blk = (true, r) := by
  intro args blk r h
  unfold s67 at h
  split at h
  · obtain ⟨g, rfl⟩ := guarded h
    exact ⟨1, .inl (k67 _)⟩
  · cases h

theorem v145 : ∀ args blk r, s145 args blk = (true, r) → ∃ n, runF E (callOf L67) n 145 args blk = some r ∨ run E n 145 args blk = (true, r) := by
  intro args blk r h
  unfold s145 at h
  split at h
  · obtain ⟨g, rfl⟩ := guarded h
    exact ⟨1, .inl (k145 _ _ _)⟩
  · cases h

theorem v125 : ∀ args blk r, s125 args blk = (true, r) → ∃ n, runF E (callOf L145) n 125 args blk = some r ∨ run E n 125 args blk = (true, r) := by
  intro args blk r h
  unfold s125 at h
  split at h
  · obtain ⟨g, rfl⟩ := guarded h
    exact ⟨1, .inl (k125 _ _ _ _ _ _ _)⟩
  · cases h

theorem v133 : ∀ args blk r, s133 args blk = (true, r) → ∃ n, runF E (callOf L125) n 133 args blk = some r ∨ run E n 133 args blk = (true, r) := by
  intro args blk r h
  unfold s133 at h
  split at h
  · obtain ⟨g, rfl⟩ := guarded h
    exact ⟨6, .inl (k133 _ _ _ _ _ _ _)⟩
  · cases h

theorem v107 : ∀ args blk r, s107 args blk = (true, r) → ∃ n, runF E (callOf L133) n 107 args blk = some r ∨ run E n 107 args blk = (true, r) := by
  intro args blk r h
  unfold s107 at h
  split at h
  · obtain ⟨g, rfl⟩ := guarded h
    obtain ⟨n, hn⟩ := k107 _ _ _ (of_decide_eq_true g)
    exact ⟨n, .inl hn⟩
  · cases h

theorem v112 : ∀ args blk r, s112 args blk = (true, r) → ∃ n, runF E (callOf L107) n 112 args blk = some r ∨ run E n 112 args blk = (true, r) := by
  intro args blk r h
  unfold s112 at h
  split at h
  · obtain ⟨g, rfl⟩ := guarded h
    obtain ⟨n, hn⟩ := k112 _ _ _ (of_decide_eq_true g)
    exact ⟨n, .inl hn⟩
  · cases h

theorem v140 : ∀ args blk r, s140 args blk = (true, r) → ∃ n, runF E (callOf L112) n 140 args blk = some r ∨ run E n 140 args blk = (true, r) := by
  intro args blk r h
  unfold s140 at h
  split at h
  · obtain ⟨g, rfl⟩ := guarded h
    exact ⟨1, .inl (k140 _)⟩
  · cases h

theorem v127 : ∀ args blk r, s127 args blk = (true, r) → ∃ n, runF E (callOf L140) n 127 args blk = some r ∨ run E n 127 args blk = (true, r) := by
  intro args blk r h
  unfold s127 at h
  split at h
  · obtain ⟨g, rfl⟩ := guarded h
    exact ⟨1, .inl (k127 _ _)⟩
  · cases h

theorem v126 : ∀ args blk r, s126 args blk = (true, r) → ∃ n, runF E (callOf L127) n 126 args blk = some r ∨ run E n 126 args blk = (true, r) := by
  intro args blk r h
  unfold s126 at h
  split at h
  · obtain ⟨g, rfl⟩ := guarded h
    obtain ⟨n, hn⟩ := k126 _ (of_decide_eq_true g)
    exact ⟨n, .inl hn⟩
  · cases h

theorem v108 : ∀ args blk r, s108 args blk = (true, r) → ∃ n, runF E (callOf L126) n 108 args blk = some r ∨ run E n 108 args blk = (true, r) := by
  intro args blk r h
  unfold s108 at h
  split at h
  · obtain ⟨g, rfl⟩ := guarded h
    exact ⟨1, .inl (k108 _ _ _ _ _ _)⟩
  · cases h

theorem v113 : ∀ args blk r, s113 args blk = (true, r) → ∃ n, runF E (callOf L108) n 113 args blk = some r ∨ run E n 113 args blk = (true, r) := by
  intro args blk r h
  unfold s113 at h
  split at h
  · obtain ⟨g, rfl⟩ := guarded h
    exact ⟨1, .inl (k113 _ _ _ _ _ _)⟩
  · cases h

theorem v91 : ∀ args blk r, s91 args blk = (true, r) → ∃ n, runF E (callOf L113) n 91 args blk = some r ∨ run E n 91 args blk = (true, r) := by
  intro args blk r h
  unfold s91 at h
  split at h
  · obtain ⟨g, rfl⟩ := guarded h
    obtain ⟨n, hn⟩ := k91 _ _ _ _ _ _ (of_decide_eq_true g)
    exact ⟨n, .inl hn⟩
  · cases h

theorem v76 : ∀ args blk r, s76 args blk = (true, r) → ∃ n, runF E (callOf L91) n 76 args blk = some r ∨ run E n 76 args blk = (true, r) := by
  intro args blk r h
  unfold s76 at h
  split at h
  · obtain ⟨g, rfl⟩ := guarded h
    obtain ⟨n, hn⟩ := k76 _ g
    exact ⟨n, .inl hn⟩
  · cases h

theorem v85 : ∀ args blk r, s85 args blk = (true, r) → ∃ n, runF E (callOf L76) n 85 args blk = some r ∨ run E n 85 args blk = (true, r) := by
  intro args blk r h
  unfold s85 at h
  split at h
  · obtain ⟨g, rfl⟩ := guarded h
    obtain ⟨n, hn⟩ := k85 _ g
    exact ⟨n, .inl hn⟩
  · cases h

theorem v134 : ∀ args blk r, s134 args blk = (true, r) → ∃ n, runF E (callOf L85) n 134 args blk = some r ∨ run E n 134 args blk = (true, r) := by
  intro args blk r h
  unfold s134 at h
  split at h
  · obtain ⟨g, rfl⟩ := guarded h
    exact ⟨1, .inl (k134 _ _ _ g)⟩
  · cases h

theorem v116 : ∀ args blk r, s116 args blk = (true, r) → ∃ n, runF E (callOf L134) n 116 args blk = some r ∨ run E n 116 args blk = (true, r) := by
  intro args blk r h
  unfold s116 at h
  split at h
  · obtain ⟨g, rfl⟩ := guarded h
    obtain ⟨n, hn⟩ := k116 _ g
    exact ⟨n, .inl hn⟩
  · cases h

theorem v33 : ∀ args blk r, s33 args blk = (true, r) → ∃ n, runF E (callOf L116) n 33 args blk = some r ∨ run E n 33 args blk = (true, r) := by
  intro args blk r h
  unfold s33 at h
  split at h
  · obtain ⟨g, rfl⟩ := guarded h
    exact ⟨1, .inl (k33 _ g)⟩
  · cases h

theorem v34 : ∀ args blk r, s34 args blk = (true, r) → ∃ n, runF E (callOf L33) n 34 args blk = some r ∨ run E n 34 args blk = (true, r) := by
  intro args blk r h
  unfold s34 at h
  split at h
  · obtain ⟨g, rfl⟩ := guarded h
    obtain ⟨n, hn⟩ := k34 _ _ g
    exact ⟨n, .inl hn⟩
  · cases h

theorem v119 : ∀ args blk r, s119 args blk = (true, r) → ∃ n, runF E (callOf L34) n 119 args blk = some r ∨ run E n 119 args blk = (true, r) := by
  intro args blk r h
  unfold s119 at h
  split at h
  · obtain ⟨g, rfl⟩ := guarded h
    obtain ⟨n, hn⟩ := k119 _ g
    exact ⟨n, .inl hn⟩
  · cases h

theorem v61 : ∀ args blk r, s61 args blk = (true, r) → ∃ n, runF E (callOf L119) n 61 args blk = some r ∨ run E n 61 args blk = (true, r) := by
  intro args blk r h
  unfold s61 at h
  split at h
  · obtain ⟨g, rfl⟩ := guarded h
    obtain ⟨n, hn⟩ := k61 _ g
    exact ⟨n, .inl hn⟩
  · cases h

theorem v70 : ∀ args blk r, s70 args blk = (true, r) → ∃ n, runF E (callOf L61) n 70 args blk = some r ∨ run E n 70 args blk = (true, r) := by
  intro args blk r h
  unfold s70 at h
  split at h
  · obtain ⟨g, rfl⟩ := guarded h
    obtain ⟨n, hn⟩ := k70 _ g
    exact ⟨n, .inl hn⟩
  · cases h

theorem v38 : ∀ args blk r, s38 args blk = (true, r) → ∃ n, runF E (callOf L70) n 38 args blk = some r ∨ run E n 38 args blk = (true, r) := by
  intro args blk r h
  unfold s38 at h
  split at h
  · obtain ⟨g, rfl⟩ := guarded h
    obtain ⟨n, hn⟩ := k38 _ _ g
    exact ⟨n, .inl hn⟩
  · cases h

theorem v78 : ∀ args blk r, s78 args blk = (true, r) → ∃ n, runF E (callOf L38) n 78 args blk = some r ∨ run E n 78 args blk = (true, r) := by
  intro args blk r h
  unfold s78 at h
  split at h
  · obtain ⟨g, rfl⟩ := guarded h
    obtain ⟨n, hn⟩ := k78 _ g
    exact ⟨n, .inl hn⟩
  · cases h

theorem v86 : ∀ args blk r, s86 args blk = (true, r) → ∃ n, runF E (callOf L78) n 86 args blk = some r ∨ run E n 86 args blk = (true, r) := by
  intro args blk r h
  unfold s86 at h
  split at h
  · obtain ⟨g, rfl⟩ := guarded h
    obtain ⟨n, hn⟩ := k86 _ g
    exact ⟨n, .inl hn⟩
  · cases h

theorem v40 : ∀ args blk r, s40 args blk = (true, r) → ∃ n, runF E (callOf L86) n 40 args blk = some r ∨ run E n 40 args blk = (true, r) := by
  intro args blk r h
  unfold s40 at h
  split at h
  · obtain ⟨g, rfl⟩ := guarded h
    obtain ⟨n, hn⟩ := k40 _ _ g
    exact ⟨n, .inl hn⟩
  · cases h

theorem v27 : ∀ args blk r, s27 args blk = (true, r) → ∃ n, runF E (callOf L40) n 27 args blk = some r ∨ run E n 27 args blk = (true, r) := by
  intro args blk r h
  unfold s27 at h
  split at h
  · obtain ⟨g, rfl⟩ := guarded h
    obtain ⟨n, hn⟩ := k27 _ g
    exact ⟨n, .inl hn⟩
  · cases h

theorem v144 : ∀ args blk r, s144 args blk = (true, r) → ∃ n, runF E (callOf L27) n 144 args blk = some r ∨ run E n 144 args blk = (true, r) := by
  intro args blk r h
  unfold s144 at h
  split at h
  · obtain ⟨g, rfl⟩ := guarded h
    exact ⟨1, .inl (k144 _ _ _ _ _ _ _ _ _ _ _ _ _ _)⟩
  · cases h

theorem v132 : ∀ args blk r, s132 args blk = (true, r) → ∃ n, runF E (callOf L144) n 132 args blk = some r ∨ run E n 132 args blk = (true, r) := by
  intro args blk r h
  unfold s132 at h
  split at h
  · obtain ⟨g, rfl⟩ := guarded h
    obtain ⟨n, hn⟩ := k132 _ _ _ _ _ _ (of_decide_eq_true g)
    exact ⟨n, .inl hn⟩
  · cases h

theorem v131 : ∀ args blk r, s131 args blk = (true, r) → ∃ n, runF E (callOf L132) n 131 args blk = some r ∨ run E n 131 args blk = (true, r) := by
  intro args blk r h
  unfold s131 at h
  split at h
  · obtain ⟨g, rfl⟩ := guarded h
    exact ⟨1, .inl (k131 _ _ _ _ _ _ (of_decide_eq_true g))⟩
  · cases h

theorem v143 : ∀ args blk r, s143 args blk = (true, r) → ∃ n, runF E (callOf L131) n 143 args blk = some r ∨ run E n 143 args blk = (true, r) := by
  intro args blk r h
  unfold s143 at h
  split at h
  · obtain ⟨g, rfl⟩ := guarded h
    obtain ⟨n, hn⟩ := k143 _ _ _ _ g
    exact ⟨n, .inl hn⟩
  · cases h

theorem v130 : ∀ args blk r, s130 args blk = (true, r) → ∃ n, runF E (callOf L143) n 130 args blk = some r ∨ run E n 130 args blk = (true, r) := by
  intro args blk r h
  unfold s130 at h
  split at h
  · obtain ⟨g, rfl⟩ := guarded h
    exact ⟨1, .inl (k130 _ _ _ _ g)⟩
  · cases h

theorem v111 : ∀ args blk r, s111 args blk = (true, r) → ∃ n, runF E (callOf L130) n 111 args blk = some r ∨ run E n 111 args blk = (true, r) := by
  intro args blk r h
  unfold s111 at h
  split at h
  · obtain ⟨g, rfl⟩ := guarded h
    obtain ⟨n, hn⟩ := k111 _ _ g
    exact ⟨n, .inl hn⟩
  · cases h

theorem v72 : ∀ args blk r, s72 args blk = (true, r) → ∃ n, runF E (callOf L111) n 72 args blk = some r ∨ run E n 72 args blk = (true, r) := by
  intro args blk r h
  unfold s72 at h
  split at h
  · obtain ⟨g, rfl⟩ := guarded h
    obtain ⟨n, hn⟩ := k72 _ _ g
    exact ⟨n, .inl hn⟩
  · cases h

theorem v63 : ∀ args blk r, s63 args blk = (true, r) → ∃ n, runF E (callOf L72) n 63 args blk = some r ∨ run E n 63 args blk = (true, r) := by
  intro args blk r h
  unfold s63 at h
  split at h
  · obtain ⟨g, rfl⟩ := guarded h
    obtain ⟨n, hn⟩ := k63 _ _ g
    exact ⟨n, .inl hn⟩
  · cases h

theorem v26 : ∀ args blk r, s26 args blk = (true, r) → ∃ n, runF E (callOf L63) n 26 args blk = some r ∨ run E n 26 args blk = (true, r) := by
  intro args blk r h
  unfold s26 at h
  split at h
  · obtain ⟨g, rfl⟩ := guarded h
    exact ⟨1, .inl (k26 _ _ g)⟩
  · cases h

theorem v37 : ∀ args blk r, s37 args blk = (true, r) → ∃ n, runF E (callOf L26) n 37 args blk = some r ∨ run E n 37 args blk = (true, r) := by
  intro args blk r h
  unfold s37 at h
  split at h
  · obtain ⟨g, rfl⟩ := guarded h
    exact ⟨1, .inl (k37 _ _ _ _ g)⟩
  · cases h

theorem v81 : ∀ args blk r, s81 args blk = (true, r) → ∃ n, runF E (callOf L37) n 81 args blk = some r ∨ run E n 81 args blk = (true, r) := by
  intro args blk r h
  unfold s81 at h
  split at h
  · obtain ⟨g, rfl⟩ := guarded h
    exact ⟨1, .inl (k81 _ g)⟩
  · cases h

theorem v89 : ∀ args blk r, s89 args blk = (true, r) → ∃ n, runF E (callOf L81) n 89 args blk = some r ∨ run E n 89 args blk = (true, r) := by
  intro args blk r h
  unfold s89 at h
  split at h
  · obtain ⟨g, rfl⟩ := guarded h
    exact ⟨1, .inl (k89 _ g)⟩
  · cases h

theorem v66 : ∀ args blk r, s66 args blk = (true, r) → ∃ n, runF E (callOf L89) n 66 args blk = some r ∨ run E n 66 args blk = (true, r) := by
  intro args blk r h
  unfold s66 at h
  split at h
  · obtain ⟨g, rfl⟩ := guarded h
    exact ⟨1, .inl (k66 _)⟩
  · cases h

theorem v151 : ∀ args blk r, s151 args blk = (true, r) → ∃ n, runF E (callOf L66) n 151 args blk = some r ∨ run E n 151 args blk = (true, r) := by
  intro args blk r h
  unfold s151 at h
  split at h
  · obtain ⟨g, rfl⟩ := guarded h
    exact ⟨1, .inl (k151 _)⟩
  · cases h

theorem v141 : ∀ args blk r, s141 args blk = (true, r) → ∃ n, runF E (callOf L151) n 141 args blk = some r ∨ run E n 141 args blk = (true, r) := by
  intro args blk r h
  unfold s141 at h
  split at h
  · obtain ⟨g, rfl⟩ := guarded h
    exact ⟨1, .inl (k141 _ _ _ _ _)⟩
  · cases h

theorem v114 : ∀ args blk r, s114 args blk = (true, r) → ∃ n, runF E (callOf L141) n 114 args blk = some r ∨ run E n 114 args blk = (true, r) := by
  intro args blk r h
  unfold s114 at h
  split at h
  · obtain ⟨g, rfl⟩ := guarded h
    exact ⟨1, .inl (k114 _ _ _ _ _)⟩
  · cases h

theorem v153 : ∀ args blk r, s153 args blk = (true, r) → ∃ n, runF E (callOf L114) n 153 args blk = some r ∨ run E n 153 args blk = (true, r) := by
  intro args blk r h
  unfold s153 at h
  split at h
  · obtain ⟨g, rfl⟩ := guarded h
    exact ⟨1, .inl (k153 _ _ _ _ _)⟩
  · cases h

theorem v156 : ∀ args blk r, s156 args blk = (true, r) → ∃ n, runF E (callOf L153) n 156 args blk = some r ∨ run E n 156 args blk = (true, r) := by
  intro args blk r h
  unfold s156 at h
  split at h
  · obtain ⟨g, rfl⟩ := guarded h
    obtain ⟨n, hn⟩ := k156 _ (of_decide_eq_true g)
    exact ⟨n, .inl hn⟩
  · cases h

theorem v152 : ∀ args blk r, s152 args blk = (true, r) → ∃ n, runF E (callOf L156) n 152 args blk = some r ∨ run E n 152 args blk = (true, r) := by
  intro args blk r h
  unfold s152 at h
  split at h
  · obtain ⟨g, rfl⟩ := guarded h
    exact ⟨1, .inl (k152 _ (of_decide_eq_true g))⟩
  · cases h

theorem v142 : ∀ args blk r, s142 args blk = (true, r) → ∃ n, runF E (callOf L152) n 142 args blk = some r ∨ run E n 142 args blk = (true, r) := by
  intro args blk r h
  unfold s142 at h
  split at h
  · obtain ⟨g, rfl⟩ := guarded h
    exact ⟨1, .inl (k142 _ _ _ _ (of_decide_eq_true g))⟩
  · cases h

theorem v115 : ∀ args blk r, s115 args blk = (true, r) → ∃ n, runF E (callOf L142) n 115 args blk = some r ∨ run E n 115 args blk = (true, r) := by
  intro args blk r h
  unfold s115 at h
  split at h
  · obtain ⟨g, rfl⟩ := guarded h
    obtain ⟨n, hn⟩ := k115 _ _ _ _ (of_decide_eq_true g)
    exact ⟨n, .inl hn⟩
  · cases h

theorem v128 : ∀ args blk r, s128 args blk = (true, r) → ∃ n, runF E (callOf L115) n 128 args blk = some r ∨ run E n 128 args blk = (true, r) := by
  intro args blk r h
  unfold s128 at h
  split at h
  · obtain ⟨g, rfl⟩ := guarded h
    obtain ⟨n, hn⟩ := k128 _ _ _ _
    exact ⟨n, .inl hn⟩
  · cases h

theorem v73 : ∀ args blk r, s73 args blk = (true, r) → ∃ n, runF E (callOf L128) n 73 args blk = some r ∨ run E n 73 args blk = (true, r) := by
  intro args blk r h
  unfold s73 at h
  split at h
  · obtain ⟨g, rfl⟩ := guarded h
    obtain ⟨n, hn⟩ := k73 _ _ _ _
    exact ⟨n, .inl hn⟩
  · cases h

theorem v129 : ∀ args blk r, s129 args blk = (true, r) → ∃ n, runF E (callOf L73) n 129 args blk = some r ∨ run E n 129 args blk = (true, r) := by
  intro args blk r h
  unfold s129 at h
  split at h
  · obtain ⟨g, rfl⟩ := guarded h
    exact ⟨1, .inl (k129 _ _ _ _ _ _ _ _)⟩
  · cases h

theorem v74 : ∀ args blk r, s74 args blk = (true, r) → ∃ n, runF E (callOf L129) n 74 args blk = some r ∨ run E n 74 args blk = (true, r) := by
  intro args blk r h
  unfold s74 at h
  split at h
  · obtain ⟨g, rfl⟩ := guarded h
    exact ⟨1, .inl (k74 _ _ _ _ _ _ _ _)⟩
  · cases h

theorem v92 : ∀ args blk r, s92 args blk = (true, r) → ∃ n, runF E (callOf L74) n 92 args blk = some r ∨ run E n 92 args blk = (true, r) := by
  intro args blk r h
  unfold s92 at h
  split at h
  · obtain ⟨g, rfl⟩ := guarded h
    obtain ⟨n, hn⟩ := k92 _ _ _ _ _ _ _ _ (of_decide_eq_true g)
    exact ⟨n, .inl hn⟩
  · cases h

end Go.Proofs.YtejimgikldiajaaGreat

namespace Go.Proofs.YtejimgikldiajaaGreat

open Go.Abs

theorem k18 (k : Int) : runF E (callOf L87) 1 18 [.one (.int .i64 k)] [] = some ([.one (.sl false 54 (usedR k)), .one (.bool (usedL k).isSome)], []) := rfl

theorem v155 : ∀ args blk r, s155 args blk = (true, r) → ∃ n, runF E (callOf L92) n 155 args blk = some r ∨ run E n 155 args blk = (true, r) := by
  intro args blk r h
  unfold s155 at h
  split at h
  · obtain ⟨g, rfl⟩ := guarded h
    exact ⟨1, .inl (k155 _ g)⟩
  · cases h

theorem v150 : ∀ args blk r, s150 args blk = (true, r) → ∃ n, runF E (callOf L155) n 150 args blk = some r ∨ run E n 150 args blk = (true, r) := by
  intro args blk r h
  unfold s150 at h
  split at h
  · obtain ⟨g, rfl⟩ := guarded h
    exact ⟨1, .inl (k150 _ g)⟩
  · cases h

theorem v154 : ∀ args blk r, s154 args blk = (true, r) → ∃ n, runF E (callOf L150) n 154 args blk = some r ∨ run E n 154 args blk = (true, r) := by
  intro args blk r h
  unfold s154 at h
  split at h
  · obtain ⟨g, rfl⟩ := guarded h
    exact ⟨1, .inl (k154 _ g)⟩
  · cases h

theorem v149 : ∀ args blk r, s149 args blk = (true, r) → ∃ n, runF E (callOf L154) n 149 args blk = some r ∨ run E n 149 args blk = (true, r) := by
  intro args blk r h
  unfold s149 at h
  split at h
  · obtain ⟨g, rfl⟩ := guarded h
    exact ⟨1, .inl (k149 _ g)⟩
  · cases h

theorem v146 : ∀ args blk r, s146 args blk = (true, r) → ∃ n, runF E (callOf L149) n 146 args blk = some r ∨ run E n 146 args blk = (true, r) := by
  intro args blk r h
  unfold s146 at h
  split at h
  · obtain ⟨g, rfl⟩ := guarded h
    exact ⟨1, .inl (k146 _ _ _ _ _ g)⟩
  · cases h

theorem v135 : ∀ args blk r, s135 args blk = (true, r) → ∃ n, runF E (callOf L146) n 135 args blk = some r ∨ run E n 135 args blk = (true, r) := by
  intro args blk r h
  unfold s135 at h
  split at h
  · obtain ⟨g, rfl⟩ := guarded h
    exact ⟨1, .inl (k135 _ _ _ g)⟩
  · cases h

theorem v147 : ∀ args blk r, s147 args blk = (true, r) → ∃ n, runF E (callOf L135) n 147 args blk = some r ∨ run E n 147 args blk = (true, r) := by
  intro args blk r h
  unfold s147 at h
  split at h
  · obtain ⟨g, rfl⟩ := guarded h
    exact ⟨1, .inl (k147 _ _ _ g)⟩
  · cases h

theorem v148 : ∀ args blk r, s148 args blk = (true, r) → ∃ n, runF E (callOf L147) n 148 args blk = some r ∨ run E n 148 args blk = (true, r) := by
  intro args blk r h
  unfold s148 at h
  split at h
  · obtain ⟨g, rfl⟩ := guarded h
    exact ⟨1, .inl (k148 _ _ _ g)⟩
  · cases h

theorem v136 : ∀ args blk r, s136 args blk = (true, r) → ∃ n, runF E (callOf L148) n 136 args blk = some r ∨ run E n 136 args blk = (true, r) := by
  intro args blk r h
  unfold s136 at h
  split at h
  · obtain ⟨g, rfl⟩ := guarded h
    exact ⟨1, .inl (k136 _ _ _ g)⟩
  · cases h

theorem v118 : ∀ args blk r, s118 args blk = (true, r) → ∃ n, runF E (callOf L136) n 118 args blk = some r ∨ run E n 118 args blk = (true, r) := by
  intro args blk r h
  unfold s118 at h
  split at h
  · obtain ⟨g, rfl⟩ := guarded h
    obtain ⟨n, hn⟩ := k118 _ g
    exact ⟨n, .inl hn⟩
  · cases h

theorem v137 : ∀ args blk r, s137 args blk = (true, r) → ∃ n, runF E (callOf L118) n 137 args blk = some r ∨ run E n 137 args blk = (true, r) := by
  intro args blk r h
  unfold s137 at h
  split at h
  · obtain ⟨g, rfl⟩ := guarded h
    exact ⟨1, .inl (k137 _ g)⟩
  · cases h

theorem v120 : ∀ args blk r, s120 args blk = (true, r) → ∃ n, runF E (callOf L137) n 120 args blk = some r ∨ run E n 120 args blk = (true, r) := by
  intro args blk r h
  unfold s120 at h
  split at h
  · obtain ⟨g, rfl⟩ := guarded h
    obtain ⟨n, hn⟩ := k120 _ g
    exact ⟨n, .inl hn⟩
  · cases h

theorem v110 : ∀ args blk r, s110 args blk = (true, r) → ∃ n, runF E (callOf L120) n 110 args blk = some r ∨ run E n 110 args blk = (true, r) := by
  intro args blk r h
  unfold s110 at h
  split at h
  · obtain ⟨g, rfl⟩ := guarded h
    obtain ⟨n, hn⟩ := k110 _ g
    exact ⟨n, .inl hn⟩
  · cases h

theorem v71 : ∀ args blk r, s71 args blk = (true, r) → ∃ n, runF E (callOf L110) n 71 args blk = some r ∨ run E n 71 args blk = (true, r) := by
  intro args blk r h
  unfold s71 at h
  split at h
  · obtain ⟨g, rfl⟩ := guarded h
    obtain ⟨n, hn⟩ := k71 _ g
    exact ⟨n, .inl hn⟩
  · cases h

theorem v39 : ∀ args blk r, s39 args blk = (true, r) → ∃ n, runF E (callOf L71) n 39 args blk = some r ∨ run E n 39 args blk = (true, r) := by
  intro args blk r h
  unfold s39 at h
  split at h
  · obtain ⟨g, rfl⟩ := guarded h
    obtain ⟨n, hn⟩ := k39 _ _ g
    exact ⟨n, .inl hn⟩
  · cases h

theorem v87 : ∀ args blk r, s87 args blk = (true, r) → ∃ n, runF E (callOf L39) n 87 args blk = some r ∨ run E n 87 args blk = (true, r) := by
  intro args blk r h
  unfold s87 at h
  split at h
  · obtain ⟨g, rfl⟩ := guarded h
    obtain ⟨n, hn⟩ := k87 _ g
    exact ⟨n, .inl hn⟩
  · cases h

theorem v18 : ∀ args blk r, s18 args blk = (true, r) → ∃ n, runF E (callOf L87) n 18 args blk = some r ∨ run E n 18 args blk = (true, r) := by
  intro args blk r h
  unfold s18 at h
  split at h
  · obtain ⟨g, rfl⟩ := guarded h
    exact ⟨1, .inl (k18 _)⟩
  · cases h

theorem v58 : ∀ args blk r, s58 args blk = (true, r) → ∃ n, runF E (callOf L18) n 58 args blk = some r ∨ run E n 58 args blk = (true, r) := by
  intro args blk r h
  unfold s58 at h
  split at h
  · obtain ⟨g, rfl⟩ := guarded h
    exact ⟨1, .inl (k58 _)⟩
  · cases h

theorem v19 : ∀ args blk r, s19 args blk = (true, r) → ∃ n, runF E (callOf L58) n 19 args blk = some r ∨ run E n 19 args blk = (true, r) := by
  intro args blk r h
  unfold s19 at h
  split at h
  · obtain ⟨g, rfl⟩ := guarded h
    exact ⟨1, .inl (k19 _)⟩
  · cases h

theorem v23 : ∀ args blk r, s23 args blk = (true, r) → ∃ n, runF E (callOf L19) n 23 args blk = some r ∨ run E n 23 args blk = (true, r) := by
  intro args blk r h
  unfold s23 at h
  split at h
  · obtain ⟨g, rfl⟩ := guarded h
    exact ⟨1, .inl (k23 _)⟩
  · cases h

theorem v60 : ∀ args blk r, s60 args blk = (true, r) → ∃ n, runF E (callOf L23) n 60 args blk = some r ∨ run E n 60 args blk = (true, r) := by
  intro args blk r h
  unfold s60 at h
  split at h
  · obtain ⟨g, rfl⟩ := guarded h
    exact ⟨1, .inl (k60 _ _)⟩
  · cases h

theorem v69 : ∀ args blk r, s69 args blk = (true, r) → ∃ n, runF E (callOf L60) n 69 args blk = some r ∨ run E n 69 args blk = (true, r) := by
  intro args blk r h
  unfold s69 at h
  split at h
  · obtain ⟨g, rfl⟩ := guarded h
    exact ⟨1, .inl (k69 _ _)⟩
  · cases h

theorem v59 : ∀ args blk r, s59 args blk = (true, r) → ∃ n, runF E (callOf L69) n 59 args blk = some r ∨ run E n 59 args blk = (true, r) := by
  intro args blk r h
  unfold s59 at h
  split at h
  · obtain ⟨g, rfl⟩ := guarded h
    obtain ⟨n, hn⟩ := k59 _ _ (of_decide_eq_true g)
    exact ⟨n, .inl hn⟩
  · cases h

theorem v20 : ∀ args blk r, s20 args blk = (true, r) → ∃ n, runF E (callOf L59) n 20 args blk = some r ∨ run E n 20 args blk = (true, r) := by
  intro args blk r h
  unfold s20 at h
  split at h
  · obtain ⟨g, rfl⟩ := guarded h
    exact ⟨1, .inl (k20 _ _ (of_decide_eq_true g))⟩
  · cases h

theorem v21 : ∀ args blk r, s21 args blk = (true, r) → ∃ n, runF E (callOf L20) n 21 args blk = some r ∨ run E n 21 args blk = (true, r) := by
  intro args blk r h
  unfold s21 at h
  split at h
  · obtain ⟨g, rfl⟩ := guarded h
    exact ⟨1, .inl (k21 ⟨_, _, _, _, _, _, _, _, _, _, _, _, _, _, _, _, _, _⟩ _)⟩
  · cases h

theorem v109 : ∀ args blk r, s109 args blk = (true, r) → ∃ n, runF E (callOf L21) n 109 args blk = some r ∨ run E n 109 args blk = (true, r) := by
  intro args blk r h
  unfold s109 at h
  split at h
  · obtain ⟨g, rfl⟩ := guarded h
    obtain ⟨n, hn⟩ := k109 _
    exact ⟨n, .inl hn⟩
  · cases h

theorem v28 : ∀ args blk r, s28 args blk = (true, r) → ∃ n, runF E (callOf L109) n 28 args blk = some r ∨ run E n 28 args blk = (true, r) := by
  intro args blk r h
  unfold s28 at h
  split at h
  · obtain ⟨g, rfl⟩ := guarded h
    obtain ⟨n, hn⟩ := k28 _
    exact ⟨n, .inl hn⟩
  · cases h

theorem v62 : ∀ args blk r, s62 args blk = (true, r) → ∃ n, runF E (callOf L28) n 62 args blk = some r ∨ run E n 62 args blk = (true, r) := by
  intro args blk r h
  unfold s62 at h
  split at h
  · obtain ⟨g, rfl⟩ := guarded h
    exact ⟨1, .inl (k62 ⟨_, _, _, _, _, _, _, _, _, _, _, _, _, _, _, _, _, _⟩ g)⟩
  · cases h

theorem v64 : ∀ args blk r, s64 args blk = (true, r) → ∃ n, runF E (callOf L62) n 64 args blk = some r ∨ run E n 64 args blk = (true, r) := by
  intro args blk r h
  unfold s64 at h
  split at h
  · obtain ⟨g, rfl⟩ := guarded h
    obtain ⟨n, hn⟩ := k64 _ g
    exact ⟨n, .inl hn⟩
  · cases h

theorem v22 : ∀ args blk r, s22 args blk = (true, r) → ∃ n, runF E (callOf L64) n 22 args blk = some r ∨ run E n 22 args blk = (true, r) := by
  intro args blk r h
  unfold s22 at h
  split at h
  · obtain ⟨g, rfl⟩ := guarded h
    exact ⟨1, .inl (k22 ⟨_, _, _, _, _, _, _, _, _, _, _, _, _, _, _, _, _, _⟩ _ g)⟩
  · cases h

theorem v8 : ∀ args blk r, s8 args blk = (true, r) → ∃ n, runF E (callOf L22) n 8 args blk = some r ∨ run E n 8 args blk = (true, r) := by
  intro args blk r h
  unfold s8 at h
  split at h
  · obtain ⟨g, rfl⟩ := guarded h
    obtain ⟨n, hn⟩ := k8 ⟨_, _, _, _, _, _, _, _, _, _, _, _, _, _, _, _, _, _⟩ g
    exact ⟨n, .inl hn⟩
  · cases h

theorem v68 : ∀ args blk r, s68 args blk = (true, r) → ∃ n, runF E (callOf L8) n 68 args blk = some r ∨ run E n 68 args blk = (true, r) := by
  intro args blk r h
  unfold s68 at h
  split at h
  · obtain ⟨g, rfl⟩ := guarded h
    exact ⟨1, .inl (k68 _)⟩
  · cases h

theorem v24 : ∀ args blk r, s24 args blk = (true, r) → ∃ n, runF E (callOf L68) n 24 args blk = some r ∨ run E n 24 args blk = (true, r) := by
  intro args blk r h
  unfold s24 at h
  split at h
  · obtain ⟨g, rfl⟩ := guarded h
    exact ⟨11, .inl (k24 ⟨_, _, _, _, _, _, _, _, _, _, _, _, _, _, _, _, _, _⟩)⟩
  · cases h

theorem v29 : ∀ args blk r, s29 args blk = (true, r) → ∃ n, runF E (callOf L24) n 29 args blk = some r ∨ run E n 29 args blk = (true, r) := by
  intro args blk r h
  unfold s29 at h
  split at h
  · obtain ⟨g, rfl⟩ := guarded h
    exact ⟨1, .inl (k29 ⟨_, _, _, _, _, _, _, _, _, _, _, _, _, _, _, _, _, _⟩ g)⟩
  · cases h

theorem v25 : ∀ args blk r, s25 args blk = (true, r) → ∃ n, runF E (callOf L29) n 25 args blk = some r ∨ run E n 25 args blk = (true, r) := by
  intro args blk r h
  unfold s25 at h
  split at h
  · obtain ⟨g, rfl⟩ := guarded h
    exact ⟨6, .inl (k25 ⟨_, _, _, _, _, _, _, _, _, _, _, _, _, _, _, _, _, _⟩ g)⟩
  · cases h

theorem v9 : ∀ args blk r, s9 args blk = (true, r) → ∃ n, runF E (callOf L25) n 9 args blk = some r ∨ run E n 9 args blk = (true, r) := by
  intro args blk r h
  unfold s9 at h
  split at h
  · obtain ⟨g, rfl⟩ := guarded h
    exact ⟨1, .inl (k9 ⟨_, _, _, _, _, _, _, _, _, _, _, _, _, _, _, _, _, _⟩ g)⟩
  · cases h

theorem v84 : ∀ args blk r, s84 args blk = (true, r) → ∃ n, runF E (callOf L9) n 84 args blk = some r ∨ run E n 84 args blk = (true, r) := by
  intro args blk r h
  unfold s84 at h
  split at h
  · obtain ⟨g, rfl⟩ := guarded h
    exact ⟨1, .inl (k84 _)⟩
  · cases h

theorem v90 : ∀ args blk r, s90 args blk = (true, r) → ∃ n, runF E (callOf L84) n 90 args blk = some r ∨ run E n 90 args blk = (true, r) := by
  intro args blk r h
  unfold s90 at h
  split at h
  · obtain ⟨g, rfl⟩ := guarded h
    exact ⟨1, .inl (k90 _)⟩
  · cases h

theorem v75 : ∀ args blk r, s75 args blk = (true, r) → ∃ n, runF E (callOf L90) n 75 args blk = some r ∨ run E n 75 args blk = (true, r) := by
  intro args blk r h
  unfold s75 at h
  split at h
  · obtain ⟨g, rfl⟩ := guarded h
    exact ⟨1, .inl (k75 _ _ _ g)⟩
  · cases h

theorem v31 : ∀ args blk r, s31 args blk = (true, r) → ∃ n, runF E (callOf L75) n 31 args blk = some r ∨ run E n 31 args blk = (true, r) := by
  intro args blk r h
  unfold s31 at h
  split at h
  · obtain ⟨g, rfl⟩ := guarded h
    exact ⟨1, .inl (k31 _ _ _ _ _)⟩
  · cases h

theorem v30 : ∀ args blk r, s30 args blk = (true, r) → ∃ n, runF E (callOf L31) n 30 args blk = some r ∨ run E n 30 args blk = (true, r) := by
  intro args blk r h
  unfold s30 at h
  split at h
  · obtain ⟨g, rfl⟩ := guarded h
    exact ⟨1, .inl (k30 _ _ _ g)⟩
  · cases h

theorem v77 : ∀ args blk r, s77 args blk = (true, r) → ∃ n, runF E (callOf L30) n 77 args blk = some r ∨ run E n 77 args blk = (true, r) := by
  intro args blk r h
  unfold s77 at h
  split at h
  · obtain ⟨g, rfl⟩ := guarded h
    exact ⟨1, .inl (k77 _ _ _ g)⟩
  · cases h

theorem v80 : ∀ args blk r, s80 args blk = (true, r) → ∃ n, runF E (callOf L77) n 80 args blk = some r ∨ run E n 80 args blk = (true, r) := by
  intro args blk r h
  unfold s80 at h
  split at h
  · obtain ⟨g, rfl⟩ := guarded h
    exact ⟨1, .inl (k80 _ _ _ g)⟩
  · cases h

theorem v117 : ∀ args blk r, s117 args blk = (true, r) → ∃ n, runF E (callOf L80) n 117 args blk = some r ∨ run E n 117 args blk = (true, r) := by
  intro args blk r h
  unfold s117 at h
  split at h
  · obtain ⟨g, rfl⟩ := guarded h
    exact ⟨1, .inl (k117 _ _ _ g)⟩
  · cases h

theorem v83 : ∀ args blk r, s83 args blk = (true, r) → ∃ n, runF E (callOf L117) n 83 args blk = some r ∨ run E n 83 args blk = (true, r) := by
  intro args blk r h
  unfold s83 at h
  split at h
  · obtain ⟨g, rfl⟩ := guarded h
    exact ⟨1, .inl (k83 _ _ _ g)⟩
  · cases h

theorem v79 : ∀ args blk r, s79 args blk = (true, r) → ∃ n, runF E (callOf L83) n 79 args blk = some r ∨ run E n 79 args blk = (true, r) := by
  intro args blk r h
  unfold s79 at h
  split at h
  · obtain ⟨g, rfl⟩ := guarded h
    obtain ⟨n, hn⟩ := k79 _ _ _ g
    exact ⟨n, .inl hn⟩
  · cases h

theorem v82 : ∀ args blk r, s82 args blk = (true, r) → ∃ n, runF E (callOf L79) n 82 args blk = some r ∨ run E n 82 args blk = (true, r) := by
  intro args blk r h
  unfold s82 at h
  split at h
  · obtain ⟨g, rfl⟩ := guarded h
    obtain ⟨n, hn⟩ := k82 _ _ _ g
    exact ⟨n, .inl hn⟩
  · cases h

theorem v32 : ∀ args blk r, s32 args blk = (true, r) → ∃ n, runF E (callOf L82) n 32 args blk = some r ∨ run E n 32 args blk = (true, r) := by
  intro args blk r h
  unfold s32 at h
  split at h
  · obtain ⟨g, rfl⟩ := guarded h
    exact ⟨1, .inl (k32 _ _ _ _ ⟨_, _, _, _, _, _, _, _, _, _, _, _, _, _, _, _, _, _⟩ g)⟩
  · cases h

theorem v10 : ∀ args blk r, s10 args blk = (true, r) → ∃ n, runF E (callOf L32) n 10 args blk = some r ∨ run E n 10 args blk = (true, r) := by
  intro args blk r h
  unfold s10 at h
  split at h
  · obtain ⟨g, rfl⟩ := guarded h
    obtain ⟨n, hn⟩ := k10 _ g
    exact ⟨n, .inl hn⟩
  · cases h

theorem v88 : ∀ args blk r, s88 args blk = (true, r) → ∃ n, runF E (callOf L10) n 88 args blk = some r ∨ run E n 88 args blk = (true, r) := by
  intro args blk r h
  unfold s88 at h
  split at h
  · obtain ⟨g, rfl⟩ := guarded h
    exact ⟨1, .inl (k88 ⟨_, _, _, _, _, _, _, _, _, _, _, _, _, _, _, _, _, _⟩ _ g)⟩
  · cases h

theorem v35 : ∀ args blk r, s35 args blk = (true, r) → ∃ n, runF E (callOf L88) n 35 args blk = some r ∨ run E n 35 args blk = (true, r) := by
  intro args blk r h
  unfold s35 at h
  split at h
  · obtain ⟨g, rfl⟩ := guarded h
    exact ⟨1, .inl (k35 _ _ _ _ _ _ _ _ _ _ g)⟩
  · cases h

theorem v36 : ∀ args blk r, s36 args blk = (true, r) → ∃ n, runF E (callOf L35) n 36 args blk = some r ∨ run E n 36 args blk = (true, r) := by
  intro args blk r h
  unfold s36 at h
  split at h
  · obtain ⟨g, rfl⟩ := guarded h
    obtain ⟨n, hn⟩ := k36 _ _ _ _ _ _ _ _ _ _ g
    exact ⟨n, .inl hn⟩
  · cases h

theorem v11 : ∀ args blk r, s11 args blk = (true, r) → ∃ n, runF E (callOf L36) n 11 args blk = some r ∨ run E n 11 args blk = (true, r) := by
  intro args blk r h
  unfold s11 at h
  split at h
  · obtain ⟨g, rfl⟩ := guarded h
    exact ⟨1, .inl (k11 _ g)⟩
  · cases h

theorem v12 : ∀ args blk r, s12 args blk = (true, r) → ∃ n, runF E (callOf L11) n 12 args blk = some r ∨ run E n 12 args blk = (true, r) := by
  intro args blk r h
  unfold s12 at h
  split at h
  · obtain ⟨g, rfl⟩ := guarded h
    exact ⟨1, .inl (k12 ⟨_, _, _, _, _, _, _, _, _, _, _, _, _, _, _, _, _, _⟩ ⟨_, _, _, _, _, _, _, _, _, _, _, _, _, _, _, _, _, _⟩ g)⟩
  · cases h

theorem v6 : ∀ args blk r, s6 args blk = (true, r) → ∃ n, runF E (callOf L12) n 6 args blk = some r ∨ run E n 6 args blk = (true, r) := by
  intro args blk r h
  unfold s6 at h
  split at h
  · obtain ⟨g, rfl⟩ := guarded h
    exact ⟨1, .inl (k6 ⟨_, _, _, _, _, _, _, _, _, _, _, _, _, _, _, _, _, _⟩)⟩
  · cases h

theorem v7 : ∀ args blk r, s7 args blk = (true, r) → ∃ n, runF E (callOf L6) n 7 args blk = some r ∨ run E n 7 args blk = (true, r) := by
  intro args blk r h
  unfold s7 at h
  split at h
  · obtain ⟨g, rfl⟩ := guarded h
    exact ⟨200, .inr aw⟩
  · cases h

theorem v3 : ∀ args blk r, s3 args blk = (true, r) → ∃ n, runF E (callOf L7) n 3 args blk = some r ∨ run E n 3 args blk = (true, r) := by
  intro args blk r h
  unfold s3 at h
  split at h
  · obtain ⟨g, rfl⟩ := guarded h
    exact ⟨1, .inl (law3 ⟨_, _, _, _, _, _, _, _, _, _, _, _, _, _, _, _, _, _⟩ g)⟩
  · cases h

theorem v4 : ∀ args blk r, s4 args blk = (true, r) → ∃ n, runF E (callOf L3) n 4 args blk = some r ∨ run E n 4 args blk = (true, r) := by
  intro args blk r h
  unfold s4 at h
  split at h
  · obtain ⟨g, rfl⟩ := guarded h
    exact ⟨1, .inl (law4 _ g)⟩
  · cases h

end Go.Proofs.YtejimgikldiajaaGreat

namespace Go.Proofs.YtejimgikldiajaaGreat

open Go.Abs

theorem valid : Valid E L := trivial

theorem valid138 : Valid E L138 := ⟨v138, valid⟩

theorem valid139 : Valid E L139 := ⟨v139, valid138⟩

theorem valid65 : Valid E L65 := ⟨v65, valid139⟩

theorem valid67 : Valid E L67 := ⟨v67, valid65⟩

theorem valid145 : Valid E L145 := ⟨v145, valid67⟩

theorem valid125 : Valid E L125 := ⟨v125, valid145⟩

theorem valid133 : Valid E L133 := ⟨v133, valid125⟩

theorem valid107 : Valid E L107 := ⟨v107, valid133⟩

theorem valid112 : Valid E L112 := ⟨v112, valid107⟩

theorem valid140 : Valid E L140 := ⟨v140, valid112⟩

theorem valid127 : Valid E L127 := ⟨v127, valid140⟩

theorem valid126 : Valid E L126 := ⟨v126, valid127⟩

theorem valid108 : Valid E L108 := ⟨v108, valid126⟩

theorem valid113 : Valid E L113 := ⟨v113, valid108⟩

theorem valid91 : Valid E L91 := ⟨v91, valid113⟩

theorem valid76 : Valid E L76 := ⟨v76, valid91⟩

theorem valid85 : Valid E L85 := ⟨v85, valid76⟩

theorem valid134 : Valid E L134 := ⟨v134, valid85⟩

theorem valid116 : Valid E L116 := ⟨v116, valid134⟩

theorem valid33 : Valid E L33 := ⟨v33, valid116⟩

theorem valid34 : Valid E L34 := ⟨v34, valid33⟩

theorem valid119 : Valid E L119 := ⟨v119, valid34⟩

theorem valid61 : Valid E L61 := ⟨v61, valid119⟩

theorem valid70 : Valid E L70 := ⟨v70, valid61⟩

theorem valid38 : Valid E L38 := ⟨v38, valid70⟩

theorem valid78 : Valid E L78 := ⟨v78, valid38⟩

theorem valid86 : Valid E L86 := ⟨v86, valid78⟩

theorem valid40 : Valid E L40 := ⟨v40, valid86⟩

theorem valid27 : Valid E L27 := ⟨v27, valid40⟩

theorem valid144 : Valid E L144 := ⟨v144, valid27⟩

theorem valid132 : Valid E L132 := ⟨v132, valid144⟩

theorem valid131 : Valid E L131 := ⟨v131, valid132⟩

theorem valid143 : Valid E L143 := ⟨v143, valid131⟩

theorem valid130 : Valid E L130 := ⟨v130, valid143⟩

theorem valid111 : Valid E L111 := ⟨v111, valid130⟩

theorem valid72 : Valid E L72 := ⟨v72, valid111⟩

theorem valid63 : Valid E L63 := ⟨v63, valid72⟩

theorem valid26 : Valid E L26 := ⟨v26, valid63⟩

theorem valid37 : Valid E L37 := ⟨v37, valid26⟩

theorem valid81 : Valid E L81 := ⟨v81, valid37⟩

theorem valid89 : Valid E L89 := ⟨v89, valid81⟩

theorem valid66 : Valid E L66 := ⟨v66, valid89⟩

theorem valid151 : Valid E L151 := ⟨v151, valid66⟩

theorem valid141 : Valid E L141 := ⟨v141, valid151⟩

theorem valid114 : Valid E L114 := ⟨v114, valid141⟩

theorem valid153 : Valid E L153 := ⟨v153, valid114⟩

theorem valid156 : Valid E L156 := ⟨v156, valid153⟩

theorem valid152 : Valid E L152 := ⟨v152, valid156⟩

theorem valid142 : Valid E L142 := ⟨v142, valid152⟩

theorem valid115 : Valid E L115 := ⟨v115, valid142⟩

theorem valid128 : Valid E L128 := ⟨v128, valid115⟩

theorem valid73 : Valid E L73 := ⟨v73, valid128⟩

theorem valid129 : Valid E L129 := ⟨v129, valid73⟩

theorem valid74 : Valid E L74 := ⟨v74, valid129⟩

theorem valid92 : Valid E L92 := ⟨v92, valid74⟩

theorem valid155 : Valid E L155 := ⟨v155, valid92⟩

theorem valid150 : Valid E L150 := ⟨v150, valid155⟩

theorem valid154 : Valid E L154 := ⟨v154, valid150⟩

theorem valid149 : Valid E L149 := ⟨v149, valid154⟩

theorem valid146 : Valid E L146 := ⟨v146, valid149⟩

theorem valid135 : Valid E L135 := ⟨v135, valid146⟩

theorem valid147 : Valid E L147 := ⟨v147, valid135⟩

theorem valid148 : Valid E L148 := ⟨v148, valid147⟩

theorem valid136 : Valid E L136 := ⟨v136, valid148⟩

theorem valid118 : Valid E L118 := ⟨v118, valid136⟩

theorem valid137 : Valid E L137 := ⟨v137, valid118⟩

theorem valid120 : Valid E L120 := ⟨v120, valid137⟩

theorem valid110 : Valid E L110 := ⟨v110, valid120⟩

theorem valid71 : Valid E L71 := ⟨v71, valid110⟩

theorem valid39 : Valid E L39 := ⟨v39, valid71⟩

theorem valid87 : Valid E L87 := ⟨v87, valid39⟩

theorem valid18 : Valid E L18 := ⟨v18, valid87⟩

theorem valid58 : Valid E L58 := ⟨v58, valid18⟩

theorem valid19 : Valid E L19 := ⟨v19, valid58⟩

theorem valid23 : Valid E L23 := ⟨v23, valid19⟩

theorem valid60 : Valid E L60 := ⟨v60, valid23⟩

theorem valid69 : Valid E L69 := ⟨v69, valid60⟩

theorem valid59 : Valid E L59 := ⟨v59, valid69⟩

theorem valid20 : Valid E L20 := ⟨v20, valid59⟩

theorem valid21 : Valid E L21 := ⟨v21, valid20⟩

theorem valid109 : Valid E L109 := ⟨v109, valid21⟩

theorem valid28 : Valid E L28 := ⟨v28, valid109⟩

theorem valid62 : Valid E L62 := ⟨v62, valid28⟩

theorem valid64 : Valid E L64 := ⟨v64, valid62⟩

theorem valid22 : Valid E L22 := ⟨v22, valid64⟩

theorem valid8 : Valid E L8 := ⟨v8, valid22⟩

theorem valid68 : Valid E L68 := ⟨v68, valid8⟩

theorem valid24 : Valid E L24 := ⟨v24, valid68⟩

theorem valid29 : Valid E L29 := ⟨v29, valid24⟩

theorem valid25 : Valid E L25 := ⟨v25, valid29⟩

theorem valid9 : Valid E L9 := ⟨v9, valid25⟩

theorem valid84 : Valid E L84 := ⟨v84, valid9⟩

theorem valid90 : Valid E L90 := ⟨v90, valid84⟩

theorem valid75 : Valid E L75 := ⟨v75, valid90⟩

theorem valid31 : Valid E L31 := ⟨v31, valid75⟩

theorem valid30 : Valid E L30 := ⟨v30, valid31⟩

theorem valid77 : Valid E L77 := ⟨v77, valid30⟩

theorem valid80 : Valid E L80 := ⟨v80, valid77⟩

theorem valid117 : Valid E L117 := ⟨v117, valid80⟩

theorem valid83 : Valid E L83 := ⟨v83, valid117⟩

theorem valid79 : Valid E L79 := ⟨v79, valid83⟩

theorem valid82 : Valid E L82 := ⟨v82, valid79⟩

theorem valid32 : Valid E L32 := ⟨v32, valid82⟩

theorem valid10 : Valid E L10 := ⟨v10, valid32⟩

theorem valid88 : Valid E L88 := ⟨v88, valid10⟩

theorem valid35 : Valid E L35 := ⟨v35, valid88⟩

theorem valid36 : Valid E L36 := ⟨v36, valid35⟩

theorem valid11 : Valid E L11 := ⟨v11, valid36⟩

theorem valid12 : Valid E L12 := ⟨v12, valid11⟩

theorem valid6 : Valid E L6 := ⟨v6, valid12⟩

theorem valid7 : Valid E L7 := ⟨v7, valid6⟩

theorem valid3 : Valid E L3 := ⟨v3, valid7⟩

theorem valid4 : Valid E L4 := ⟨v4, valid3⟩

theorem cfg_wf {c : List (List Cell)} (h : Cell.Wf E (.slice 93 c)) : shortRows c = true := by
  obtain ⟨h1, _, h3⟩ := wf_slice (ks := [.int .i64, .int .i64, .slice 89]) h (by kernel_rfl)
  refine List.all_eq_true.2 fun r hr => ?_
  obtain ⟨c0, r0, rfl, e0, q0⟩ := row_cons (h1 r hr)
  obtain ⟨c1, r1, rfl, e1, q1⟩ := row_cons q0
  obtain ⟨c2, r2, rfl, e2, q2⟩ := row_cons q1
  obtain ⟨l, rfl⟩ := kind_slice e2
  obtain rfl := row_nil q2
  have hl := (wf_slice (ks := [.int .i64, .int .i64, .int .i64, .int .i64, .int .i64, .int .i64, .int .i64]) (h3 _ hr (.slice 89 l) (by simp)) (by kernel_rfl)).2.1
  have e : nl [c0, c1, .slice 89 l] 2 = l := rfl
  unfold shortRow
  rw [e]
  simp only [decide_eq_true_eq]
  unfold maxLen at hl
  omega

theorem st_wf {c : List (List Cell)} (h : Cell.Wf E (.slice 96 c)) : shortRowsU c = true := by
  obtain ⟨h1, _, h3⟩ := wf_slice (ks := [.int .i64, .int .i64, .int .i64, .slice 136]) h (by kernel_rfl)
  refine List.all_eq_true.2 fun r hr => ?_
  obtain ⟨c0, r0, rfl, e0, q0⟩ := row_cons (h1 r hr)
  obtain ⟨c1, r1, rfl, e1, q1⟩ := row_cons q0
  obtain ⟨c2, r2, rfl, e2, q2⟩ := row_cons q1
  obtain ⟨c3, r3, rfl, e3, q3⟩ := row_cons q2
  obtain ⟨l, rfl⟩ := kind_slice e3
  obtain rfl := row_nil q3
  have hl := (wf_slice (ks := [.int .i64, .str, .str, .int .i64, .str]) (h3 _ hr (.slice 136 l) (by simp)) (by kernel_rfl)).2.1
  have e : nl [c0, c1, c2, .slice 136 l] 3 = l := rfl
  unfold shortRowU
  rw [e]
  simp only [decide_eq_true_eq]
  unfold maxLen at hl
  omega

theorem okB_wf {x : List (List Cell)} (h : Cell.Wf E (.slice 5 x)) : okB x = true := by
  obtain ⟨h1, _, h3⟩ := wf_slice (ks := [.int .u8]) h (by kernel_rfl)
  refine List.all_eq_true.2 fun r hr => ?_
  obtain ⟨c, r', rfl, hc, hr'⟩ := row_cons (h1 r hr)
  obtain ⟨n, rfl⟩ := kind_int hc
  obtain rfl := row_nil hr'
  have := wf_u8 (h3 _ hr _ List.mem_cons_self)
  simp only [isByte, Bool.and_eq_true, decide_eq_true_eq]
  omega

end Go.Proofs.YtejimgikldiajaaGreat

namespace Go.Proofs.YtejimgikldiajaaGreat

open Go.Abs Go.RowKit Go.Lib

theorem wpList_value_run {P : Program} (w : World) {ops : Array Oper} {rest : List Oper} {o : Oper} {a : Act} {Q : Exit → Act → World → Prop} (hgd : o.guard = none) {v' : Value} {w' : World}
    (hr : (execOp a.eval o).run P w = .ok (.value v') w') (h : wpList P ops Q rest (a.put o.dst v') w') : wpList P ops Q (o :: rest) a w :=
  wpList_plain hgd fun _ hK => by
    unfold Oper.wp
    simp only [hr]
    exact hK _ _ h

theorem wpList_insert_runC {P : Program} (w : World) {ops : Array Oper} {rest : List Oper} {o : Oper} {a : Act} {Q : Exit → Act → World → Prop} (hgd : o.guard = none) (hds : o.dst = none) (m k x : Operand) (t : TypeId) (ho : o.op = .insert t m k x)
    (vm vk vx : Value) (hm : a.eval m = vm) (hk : a.eval k = vk) (hx : a.eval x = vx) {w' : World} (hr : (Instr.mapUpdate t vm vk vx).run P w = .ok () w') (h : wpList P ops Q rest a w') : wpList P ops Q (o :: rest) a w :=
  wpList_plain hgd fun _ hK => by
    unfold Oper.wp
    simp [execOp, ho, hm, hk, hx, hr, Result.andThen]
    refine hK _ _ ?_
    rw [hds]
    exact h

theorem wpList_lookup_runC {P : Program} (w : World) {ops : Array Oper} {rest : List Oper} {o : Oper} {a : Act} {Q : Exit → Act → World → Prop} (hgd : o.guard = none) (m k : Operand) (t : TypeId) (b : Bool) (ho : o.op = .lookup t m k b)
    (vm vk : Value) (hm : a.eval m = vm) (hk : a.eval k = vk) {v' : Value} {w' : World} (hr : (Instr.lookup t vm vk b).run P w = .ok v' w') (h : wpList P ops Q rest (a.put o.dst v') w') : wpList P ops Q (o :: rest) a w :=
  wpList_value_run w hgd (by simp [execOp, ho, hm, hk, hr, Result.andThen]) h

theorem u104 : Tryz.prog.underlying 104 = some (.map 3 50) := by kernel_rfl

theorem uInt : Tryz.prog.underlying 3 = some (.int .i64) := by kernel_rfl

theorem zSl (w : World) : (zeroValue 50).run Tryz.prog w = .ok (.slice none 0 0) w := by kernel_rfl

abbrev iv (n : Int) : Value := .int .i64 n

structure UInv (w W : World) (i : Nat) (es : List MapEntry) (cs : List (Array Value)) : Prop where
  size : W.heap.size = w.heap.size + 1 + i
  map : W.heap[w.heap.size]? = some (.map es.toArray i)
  kept : w.keptBut W (Abs.inT fun _ _ => False)
  len : cs.length = i
  cells : ∀ (j : Nat) (c : Array Value), cs[j]? = some c → ∀ (q : Nat) (v : Value), c[q]? = some v → Abs.cell W (w.heap.size + 1 + j) q = some v

theorem kept_map_low {w w' : World} {b : Nat} (h : w.keptBut w' (fun p => p = .map b)) (hb : w.heap.size ≤ b) : w.keptBut w' (Abs.inT fun _ _ => False) := by
  obtain ⟨h1, h2, h3⟩ := h
  refine ⟨h1, h2, fun i hi => ?_⟩
  have := h3 i hi
  split at this
  · rename_i c t f c' t' f' e1 e2
    obtain ⟨g1, g2, g3, g4⟩ := this
    exact ⟨g1, g2, g3, fun j hj => g4 j fun hm => by cases hm⟩
  · rename_i es cl es' cl' e1 e2
    exact .inr (this.resolve_left fun e => by
      injection e with e
      omega)
  · exact this

theorem size_alloc (w : World) (o : Obj) : (w.alloc o).heap.size = w.heap.size + 1 := by
  have e : (w.alloc o).heap = w.heap.push o := rfl
  rw [e, Array.size_push]

theorem u_init (w : World) : UInv w (w.alloc (.map #[] 0)) 0 [] [] :=
  ⟨size_alloc w _, (MapKept.heap_alloc w _).1, World.keptBut_alloc _ _ _, rfl, fun j c h => by simp at h⟩

theorem u_step {w W : World} {i : Nat} {es : List MapEntry} {cs : List (Array Value)} (h : UInv w W i es cs) (c : Array Value) (n : Int) (l : Nat) (hf : Instr.findNow (.int .i64) (iv n) es 0 = some none) :
    ∃ W', (Instr.mapUpdate 104 (.map (some w.heap.size)) (iv n) (.slice (some ⟨W.heap.size, 0, none⟩) l l)).run Tryz.prog (W.alloc (.cells c 54)) = .ok () W' ∧
      UInv w W' (i + 1) (es ++ [⟨iv n, .slice (some ⟨w.heap.size + 1 + i, 0, none⟩) l l, i⟩]) (cs ++ [c]) := by
  have hlt : w.heap.size < W.heap.size := by have := h.size; omega
  have hm : (W.alloc (.cells c 54)).heap[w.heap.size]? = some (.map es.toArray i) := by rw [(MapKept.heap_alloc W _).2 _ hlt]; exact h.map
  refine ⟨{ (W.alloc (.cells c 54)) with heap := (W.alloc (.cells c 54)).heap.setIfInBounds w.heap.size (.map (es.toArray.push ⟨iv n, .slice (some ⟨W.heap.size, 0, none⟩) l l, i⟩) (i + 1)) }, ?_, ?_⟩
  · have hk : (Instr.checkKey false 10000 3 (iv n)).run Tryz.prog (W.alloc (.cells c 54)) = .ok () (W.alloc (.cells c 54)) := MapKept.run_checkKey uInt (by trivial) false 9999
    have hfk : (Instr.findKey 3 (iv n) es).run Tryz.prog (W.alloc (.cells c 54)) = .ok none (W.alloc (.cells c 54)) := MapKept.run_findKey uInt hf
    have hs := MapKept.run_setObj_map (P := Tryz.prog) (.map (es.toArray.push ⟨iv n, .slice (some ⟨W.heap.size, 0, none⟩) l l, i⟩) (i + 1)) hm
    simp [Instr.mapUpdate, run_underlying u104, MapKept.run_getObj_map hm, hk, hfk, Result.andThen]
    simpa using hs
  · have hset := MapKept.heap_set (o' := .map (es.toArray.push ⟨iv n, .slice (some ⟨W.heap.size, 0, none⟩) l l, i⟩) (i + 1)) hm
    have hcell : ∀ B q, B ≠ w.heap.size → Abs.cell { (W.alloc (.cells c 54)) with heap := (W.alloc (.cells c 54)).heap.setIfInBounds w.heap.size (.map (es.toArray.push ⟨iv n, .slice (some ⟨W.heap.size, 0, none⟩) l l, i⟩) (i + 1)) } B q = Abs.cell (W.alloc (.cells c 54)) B q := fun B q hB => by
      simp only [Abs.cell, World.cell?]
      rw [hset.2 B hB]
    refine ⟨?_, ?_, ?_, ?_, ?_⟩
    · have := h.size
      show ((W.alloc (.cells c 54)).heap.setIfInBounds w.heap.size _).size = _
      rw [Array.size_setIfInBounds, size_alloc]
      omega
    · rw [hset.1]
      simp [h.size]
    · refine kept_map_low (b := w.heap.size) ?_ (Nat.le_refl _)
      have k1 : w.keptBut W (fun p => p = .map w.heap.size) := World.keptBut_mono (fun p hp => by cases p <;> exact hp.elim) h.kept
      exact World.keptBut_trans (World.keptBut_trans k1 (World.keptBut_alloc W (.cells c 54) _)) (ChangeMaps.keptBut_setBlock hm rfl)
    · simp [h.len]
    · intro j c' hj q v hv
      rw [hcell _ _ (by omega)]
      by_cases hjl : j < cs.length
      · rw [List.getElem?_append_left hjl] at hj
        have := h.cells j c' hj q v hv
        have e := World.cell?_alloc_past (w := W) (.cells c 54) (w.heap.size + 1 + j) q (Abs.cell_lt this)
        rw [Abs.cell, e]
        exact this
      · have hjj : j = cs.length := by
          have := (List.getElem?_eq_some_iff.1 hj).1
          simp at this
          omega
        subst hjj
        rw [List.getElem?_append_right (Nat.le_refl _), Nat.sub_self] at hj
        simp at hj
        subst hj
        have hq := (Array.getElem?_eq_some_iff.1 hv)
        obtain ⟨hq1, hq2⟩ := hq
        have := Abs.cell_new W c 54 q hq1
        rw [h.len, ← h.size, this, hq2]

theorem look {w W : World} {n : Nat} {es : List MapEntry} {cs : List (Array Value)} (h : UInv w W n es cs) (k : Int) (r : Option (Nat × Value)) (hf : Instr.findNow (.int .i64) (iv k) es 0 = some r) :
    (Instr.lookup 104 (.map (some w.heap.size)) (iv k) true).run Tryz.prog W = .ok (.tuple (match (generalizing := false) r with | some (_, v) => #[v, .bool true] | none => #[.slice none 0 0, .bool false])) W := by
  have hk : ∀ b, (Instr.checkKey b 10000 3 (iv k)).run Tryz.prog W = .ok () W := fun b => MapKept.run_checkKey uInt (by trivial) b 9999
  have hfk : (Instr.findKey 3 (iv k) es).run Tryz.prog W = .ok r W := MapKept.run_findKey uInt hf
  cases r with
  | none => simp [Instr.lookup, run_underlying u104, MapKept.run_getObj_map h.map, hk, hfk, zSl, Result.andThen]
  | some p => simp [Instr.lookup, run_underlying u104, MapKept.run_getObj_map h.map, hk, hfk, Result.andThen]

theorem wpList_makeMap_runC {P : Program} (w : World) {ops : Array Oper} {rest : List Oper} {o : Oper} {a : Act} {Q : Exit → Act → World → Prop} (hgd : o.guard = none) (t : TypeId) (ho : o.op = .makeMap t none)
    {v' : Value} {w' : World} (hr : (Instr.makeMap t none).run P w = .ok v' w') (h : wpList P ops Q rest (a.put o.dst v') w') : wpList P ops Q (o :: rest) a w :=
  wpList_value_run w hgd (by simp [execOp, ho, hr, Result.andThen]) h

def usedE (b : Nat) : List MapEntry := [⟨iv 1, .slice (some ⟨b + 1 + 0, 0, none⟩) 5 5, 0⟩, ⟨iv 2, .slice (some ⟨b + 1 + 1, 0, none⟩) 7 7, 1⟩, ⟨iv 3, .slice (some ⟨b + 1 + 2, 0, none⟩) 1 1, 2⟩, ⟨iv 4, .slice (some ⟨b + 1 + 3, 0, none⟩) 2 2, 3⟩, ⟨iv 5, .slice (some ⟨b + 1 + 4, 0, none⟩) 6 6, 4⟩, ⟨iv 6, .slice (some ⟨b + 1 + 5, 0, none⟩) 1 1, 5⟩, ⟨iv 7, .slice (some ⟨b + 1 + 6, 0, none⟩) 1 1, 6⟩, ⟨iv 8, .slice (some ⟨b + 1 + 7, 0, none⟩) 1 1, 7⟩]

def usedC : List (Array Value) := [#[iv 0, iv 1, iv 2, iv 3, iv 4], #[iv 0, iv 1, iv 3, iv 4, iv 8, iv 9, iv 10], #[iv 5], #[iv 5, iv 6], #[iv 5, iv 4, iv 7, iv 8, iv 9, iv 10], #[iv 5], #[iv 5], #[iv 5]]

theorem cells_of {W : World} {B : Nat} {l : List Int} {c : Array Value} (hc : c = (l.map iv).toArray) (h : ∀ (q : Nat) (v : Value), c[q]? = some v → Abs.cell W B q = some v) : ∀ (j : Nat) (hj : j < l.length), Abs.cell W B j = some (iv l[j]) := by
  subst hc
  intro j hj
  exact h j _ (by simp)

theorem used_find {w W : World} (h : UInv w W 8 (usedE w.heap.size) usedC) (k : Int) : ∃ r, Instr.findNow (.int .i64) (iv k) (usedE w.heap.size) 0 = some r ∧ (match usedL k with
      | some l => ∃ B q, r = some (q, .slice (some ⟨B, 0, none⟩) l.length l.length) ∧ w.heap.size ≤ B ∧ ∀ (j : Nat) (hj : j < l.length), Abs.cell W B j = some (iv l[j])
      | none => r = none) := by
  by_cases k1 : k = 1
  · subst k1
    exact ⟨some (0, .slice (some ⟨w.heap.size + 1 + 0, 0, none⟩) 5 5), rfl, _, _, rfl, by omega, cells_of (c := #[iv 0, iv 1, iv 2, iv 3, iv 4]) rfl (h.cells 0 _ rfl)⟩
  by_cases k2 : k = 2
  · subst k2
    exact ⟨some (1, .slice (some ⟨w.heap.size + 1 + 1, 0, none⟩) 7 7), rfl, _, _, rfl, by omega, cells_of (c := #[iv 0, iv 1, iv 3, iv 4, iv 8, iv 9, iv 10]) rfl (h.cells 1 _ rfl)⟩
  by_cases k3 : k = 3
  · subst k3
    exact ⟨some (2, .slice (some ⟨w.heap.size + 1 + 2, 0, none⟩) 1 1), rfl, _, _, rfl, by omega, cells_of (c := #[iv 5]) rfl (h.cells 2 _ rfl)⟩
  by_cases k4 : k = 4
  · subst k4
    exact ⟨some (3, .slice (some ⟨w.heap.size + 1 + 3, 0, none⟩) 2 2), rfl, _, _, rfl, by omega, cells_of (c := #[iv 5, iv 6]) rfl (h.cells 3 _ rfl)⟩
  by_cases k5 : k = 5
  · subst k5
    exact ⟨some (4, .slice (some ⟨w.heap.size + 1 + 4, 0, none⟩) 6 6), rfl, _, _, rfl, by omega, cells_of (c := #[iv 5, iv 4, iv 7, iv 8, iv 9, iv 10]) rfl (h.cells 4 _ rfl)⟩
  by_cases k6 : k = 6
  · subst k6
    exact ⟨some (5, .slice (some ⟨w.heap.size + 1 + 5, 0, none⟩) 1 1), rfl, _, _, rfl, by omega, cells_of (c := #[iv 5]) rfl (h.cells 5 _ rfl)⟩
  by_cases k7 : k = 7
  · subst k7
    exact ⟨some (6, .slice (some ⟨w.heap.size + 1 + 6, 0, none⟩) 1 1), rfl, _, _, rfl, by omega, cells_of (c := #[iv 5]) rfl (h.cells 6 _ rfl)⟩
  by_cases k8 : k = 8
  · subst k8
    exact ⟨some (7, .slice (some ⟨w.heap.size + 1 + 7, 0, none⟩) 1 1), rfl, _, _, rfl, by omega, cells_of (c := #[iv 5]) rfl (h.cells 7 _ rfl)⟩
  refine ⟨none, ?_, ?_⟩
  · have n1 : (k == 1) = false := beq_eq_false_iff_ne.2 k1
    have n2 : (k == 2) = false := beq_eq_false_iff_ne.2 k2
    have n3 : (k == 3) = false := beq_eq_false_iff_ne.2 k3
    have n4 : (k == 4) = false := beq_eq_false_iff_ne.2 k4
    have n5 : (k == 5) = false := beq_eq_false_iff_ne.2 k5
    have n6 : (k == 6) = false := beq_eq_false_iff_ne.2 k6
    have n7 : (k == 7) = false := beq_eq_false_iff_ne.2 k7
    have n8 : (k == 8) = false := beq_eq_false_iff_ne.2 k8
    simp [usedE, Instr.findNow, Instr.sameNow, n1, n2, n3, n4, n5, n6, n7, n8]
  · unfold usedL
    rw [if_neg k1, if_neg k2, if_neg k3, if_neg k4, if_neg k5, if_neg k6, if_neg k7, if_neg k8]

set_option maxHeartbeats 4000000 in
set_option maxRecDepth 100000 in
theorem used_walk (k : Int) (w : World) : Calls Tryz.prog 18 #[.int .i64 k] w fun e w' => w.keptBut w' (Abs.inT fun _ _ => False) ∧
    match usedL k with
    | some l => ∃ B, e = .returned (.tuple #[.slice (some ⟨B, 0, none⟩) l.length l.length, .bool true]) ∧ w.heap.size ≤ B ∧ ∀ (j : Nat) (hj : j < l.length), Abs.cell w' B j = some (iv l[j])
    | none => e = .returned (.tuple #[.slice none 0 0, .bool false]) := by
  have mixed : Tryz.prog.follows .mixedOrders = true := by kernel_rfl
  have hmk := run_makeMap (P := Tryz.prog) 104 w
  have h0 := u_init w
  generalize w.alloc (.map #[] 0) = W0 at hmk h0
  obtain ⟨W1, i0, h1⟩ := u_step h0 #[iv 0, iv 1, iv 2, iv 3, iv 4] 1 5 (by simp [Instr.findNow, Instr.sameNow])
  obtain ⟨W2, i1, h2⟩ := u_step h1 #[iv 0, iv 1, iv 3, iv 4, iv 8, iv 9, iv 10] 2 7 (by simp [Instr.findNow, Instr.sameNow])
  obtain ⟨W3, i2, h3⟩ := u_step h2 #[iv 5] 3 1 (by simp [Instr.findNow, Instr.sameNow])
  obtain ⟨W4, i3, h4⟩ := u_step h3 #[iv 5, iv 6] 4 2 (by simp [Instr.findNow, Instr.sameNow])
  obtain ⟨W5, i4, h5⟩ := u_step h4 #[iv 5, iv 4, iv 7, iv 8, iv 9, iv 10] 5 6 (by simp [Instr.findNow, Instr.sameNow])
  obtain ⟨W6, i5, h6⟩ := u_step h5 #[iv 5] 6 1 (by simp [Instr.findNow, Instr.sameNow])
  obtain ⟨W7, i6, h7⟩ := u_step h6 #[iv 5] 7 1 (by simp [Instr.findNow, Instr.sameNow])
  obtain ⟨W8, i7, h8⟩ := u_step h7 #[iv 5] 8 1 (by simp [Instr.findNow, Instr.sameNow])
  have h8' : UInv w W8 8 (usedE w.heap.size) usedC := h8
  obtain ⟨r, hr1, hr2⟩ := used_find h8' k
  have hlk := look h8' k r hr1
  have hkept := h8'.kept
  generalize hX : (match (generalizing := false) r with | some (_, v) => #[v, Value.bool true] | none => #[Value.slice none 0 0, .bool false]) = X at hlk
  obtain ⟨v0, v1, rfl⟩ : ∃ v0 v1, X = #[v0, v1] := by
    cases r with
    | none => exact ⟨_, _, hX.symm⟩
    | some p => exact ⟨_, _, hX.symm⟩
  have hw : Calls Tryz.prog 18 #[.int .i64 k] w fun e w' => e = .returned (.tuple #[v0, v1]) ∧ w' = W8 := by
    go_enter Tryz.func18, Tryz.ntmps18
    go_wp2_with (first
      | ((with_reducible change wpList _ _ _ ({ dst := _, op := Op.makeMap 104 none, type := _, pos := _, after := _, guard := _ } :: _) _ _); refine wpList_makeMap_runC _ rfl 104 rfl hmk ?_)
      | ((with_reducible change wpList _ _ _ ({ dst := _, op := Op.insert 104 _ _ _, type := _, pos := _, after := _, guard := _ } :: _) _ _); refine wpList_insert_runC _ rfl rfl _ _ _ _ rfl _ _ _ rfl rfl rfl i0 ?_)
      | ((with_reducible change wpList _ _ _ ({ dst := _, op := Op.insert 104 _ _ _, type := _, pos := _, after := _, guard := _ } :: _) _ _); refine wpList_insert_runC _ rfl rfl _ _ _ _ rfl _ _ _ rfl rfl rfl i1 ?_)
      | ((with_reducible change wpList _ _ _ ({ dst := _, op := Op.insert 104 _ _ _, type := _, pos := _, after := _, guard := _ } :: _) _ _); refine wpList_insert_runC _ rfl rfl _ _ _ _ rfl _ _ _ rfl rfl rfl i2 ?_)
      | ((with_reducible change wpList _ _ _ ({ dst := _, op := Op.insert 104 _ _ _, type := _, pos := _, after := _, guard := _ } :: _) _ _); refine wpList_insert_runC _ rfl rfl _ _ _ _ rfl _ _ _ rfl rfl rfl i3 ?_)
      | ((with_reducible change wpList _ _ _ ({ dst := _, op := Op.insert 104 _ _ _, type := _, pos := _, after := _, guard := _ } :: _) _ _); refine wpList_insert_runC _ rfl rfl _ _ _ _ rfl _ _ _ rfl rfl rfl i4 ?_)
      | ((with_reducible change wpList _ _ _ ({ dst := _, op := Op.insert 104 _ _ _, type := _, pos := _, after := _, guard := _ } :: _) _ _); refine wpList_insert_runC _ rfl rfl _ _ _ _ rfl _ _ _ rfl rfl rfl i5 ?_)
      | ((with_reducible change wpList _ _ _ ({ dst := _, op := Op.insert 104 _ _ _, type := _, pos := _, after := _, guard := _ } :: _) _ _); refine wpList_insert_runC _ rfl rfl _ _ _ _ rfl _ _ _ rfl rfl rfl i6 ?_)
      | ((with_reducible change wpList _ _ _ ({ dst := _, op := Op.insert 104 _ _ _, type := _, pos := _, after := _, guard := _ } :: _) _ _); refine wpList_insert_runC _ rfl rfl _ _ _ _ rfl _ _ _ rfl rfl rfl i7 ?_)
      | ((with_reducible change wpList _ _ _ ({ dst := _, op := Op.lookup 104 _ _ _, type := _, pos := _, after := _, guard := _ } :: _) _ _); refine wpList_lookup_runC _ rfl _ _ _ _ rfl _ _ rfl rfl hlk ?_))
    all_goals (go_ret2; exact ⟨rfl, rfl⟩)
  refine hw.mono ?_
  rintro e w' ⟨rfl, rfl⟩
  refine ⟨hkept, ?_⟩
  cases hu : usedL k with
  | none =>
    rw [hu] at hr2
    subst hr2
    rw [← hX]
  | some l =>
    rw [hu] at hr2
    obtain ⟨B, q, rfl, h1, h2⟩ := hr2
    exact ⟨B, by rw [← hX], h1, h2⟩

theorem used_flat : ∀ (l : List Int), (l.map fun n => [Cell.int .i64 n]).flatten = l.map fun n => Cell.int .i64 n
  | [] => rfl
  | n :: l => by rw [List.map_cons, List.flatten_cons, used_flat l]; rfl

theorem cUsed {E : Env} {te : Ty} (he : E.tys 54 = some te) (hk : te.kinds = [.int .i64]) : PrimOk Tryz.prog E 18 (primUsed 54) := by
  intro args blk vs bs h
  unfold primUsed at h
  split at h
  rotate_left
  · cases h
  rename_i k
  cases h
  refine ⟨⟨Tryz.f18, Tryz.func18, of_decide_eq_true (by kernel_rfl), by kernel_rfl⟩, fun R ρ own vals w hl ho hrel => ?_⟩
  obtain ⟨v, rfl⟩ : ∃ v, vals = [v] := by
    match vals, hl with
    | [a], _ => exact ⟨a, rfl⟩
  have hv : v = .int .i64 k := (hrel.fr 0).get_int
  subst hv
  refine (used_walk k w).mono ?_
  rintro e w' ⟨hkp, hpost⟩
  have hgr : Grow own own w w' := ⟨World.keptBut_mono (inT_mono fun _ _ h => h.elim) hkp, fun x B t' hx => .inr ⟨x, t', hx, Nat.le_refl _⟩⟩
  have hK : Keeps w (Go.Abs.Fn own R) w' (Go.Abs.Fn own R) := keeps_of hgr
  have key : ∀ (r0 : Value), CR E w' (Go.Abs.Fn own R) (.slice 54 (usedR k)) r0 → e = .returned (.tuple #[r0, .bool (usedL k).isSome]) →
      Returned E R ρ own w [.one (.sl false 54 (usedR k)), .one (.bool (usedL k).isSome)] [] e w' := by
    rintro r0 hcr rfl
    refine ⟨[r0, .bool (usedL k).isSome], ρ, own, rfl, rfl, fun _ _ h => h, ⟨rfl, rfl, fun t => ?_, hrel.rho, fun b => ?_, hrel.inj, fun x B t hx => ⟨Nat.lt_of_lt_of_le (hrel.out x B t hx).1 hkp.size, (hrel.out x B t hx).2⟩, fun B off hR => Nat.lt_of_lt_of_le (hrel.low B off hR) hkp.size⟩, hgr⟩
    · by_cases h0 : t = 0
      · subst h0
        exact .one _ _ _ (by rw [ho]; exact .sl _ _ _ hcr) fun p _ => ho _ _
      · by_cases h1 : t = 1
        · subst h1
          exact .one _ _ _ (by rw [ho]; exact .bool _) fun p _ => ho _ _
        · have e1 : Abs.get (zipFr [AV.one (.sl false 54 (usedR k)), .one (.bool (usedL k).isSome)] 0) t = .undef := by
            simp only [zipFr, Abs.get, nbeq_ne (Ne.symm h0), nbeq_ne (Ne.symm h1), cond_false]
          dsimp only
          rw [e1]
          exact .undef _ _ fun p => ho _ _
    · exact hrel.blk b
  obtain ⟨u, hu⟩ : ∃ u, usedL k = u := ⟨_, rfl⟩
  cases u with
  | none =>
    rw [hu] at hpost
    have hr : usedR k = [] := by unfold usedR; rw [hu]; rfl
    refine key (.slice none 0 0) ?_ ?_
    · rw [hr]; exact .empty _ _ _
    · rw [hu]; exact hpost
  | some l =>
    rw [hu] at hpost
    obtain ⟨B, rfl, hB, hc⟩ := hpost
    have hr : usedR k = l.map fun n => [Cell.int .i64 n] := by unfold usedR; rw [hu]; rfl
    refine key (.slice (some ⟨B, 0, none⟩) l.length l.length) ?_ (by rw [hu]; rfl)
    rw [hr]
    by_cases h0 : l = []
    · subst h0
      exact .empty _ _ _
    · have hfl : (l.map fun n => [Cell.int .i64 n]).flatten.length = l.length := by rw [used_flat]; simp
      have := CR.slice (E := E) (w := w') (F := Go.Abs.Fn own R) 54 (l.map fun n => [Cell.int .i64 n]) te B 0 l.length (fun j => iv (l.getD j 0)) he (fun r hr => by
        obtain ⟨n, _, rfl⟩ := List.mem_map.1 hr
        rw [hk]; rfl) (by simp) (fun i hi => by
          rw [hfl] at hi
          rw [Nat.zero_add]
          refine ⟨by rw [hc i hi]; simp [List.getD, List.getElem?_eq_getElem hi], ?_⟩
          rintro (hR | ⟨x, t, hx, _⟩)
          · have := hrel.low _ _ hR; omega
          · have := (hrel.out _ _ _ hx).1; omega) (fun i hi => by
            have hi' := hi
            rw [hfl] at hi'
            have e2 : (l.map fun n => [Cell.int .i64 n]).flatten[i] = Cell.int .i64 l[i] := by simp only [used_flat, List.getElem_map]
            rw [e2]
            simp only [List.getD, List.getElem?_eq_getElem hi', Option.getD_some]
            exact .int _ _)
      rwa [List.length_map] at this

theorem tyFE : ∃ te, E.tys 54 = some te ∧ te.kinds = [.int .i64] := by
  have h : (E.tys 54).any (fun te => decide (te.kinds = [.int .i64])) = true := by kernel_rfl
  cases e : E.tys 54 with
  | none => rw [e] at h; cases h
  | some te =>
    rw [e] at h
    simp only [Option.any_some, decide_eq_true_eq] at h
    exact ⟨te, rfl, h⟩

theorem c18 : PrimOk Tryz.prog E 18 (primUsed 54) := by
  obtain ⟨te, he, hk⟩ := tyFE
  exact cUsed he hk

end Go.Proofs.YtejimgikldiajaaGreat

namespace Go.Proofs.YtejimgikldiajaaGreat

open Go.Abs

theorem next_some {P : Program} (w : World) (s : ByteArray) (pos : Nat) (ty : TypeId) (h : pos < s.size) :
    (Instr.next (.pointer (some ⟨w.heap.size, 0, none⟩)) true ty).run P (w.iter s pos) =
      .ok (.tuple #[.bool true, .int .i64 pos, .int .i32 (Utf8.decode s pos).1]) (w.iter s (pos + (Utf8.decode s pos).2)) := by
  simp only [Instr.next, getObj, setObj, Sem.run_bind, Sem.run, World.iter_heap, Result.andThen, h, if_true, World.iter_set]
  simp [goInt, Sem.run, World.iter_heap, World.iter_set]

theorem under9 : Tryz.prog.underlying 9 = some .string := by kernel_rfl

set_option maxRecDepth 100000 in
theorem walk151 (s : ByteArray) (w : World) : Calls Tryz.prog 151 #[.string s] w fun e w' => e = .returned (.bool (decide (s.size = 0))) ∧ ∃ pos, w' = w.iter s pos := by
  have hr := run_range_string (P := Tryz.prog) w 9 s under9
  by_cases h : 0 < s.size
  · have hn := next_some (P := Tryz.prog) w s 0 0 h
    go_enter Tryz.func151, Tryz.ntmps151
    go_wp2
    refine wp_loop_rounds 1 ?_
    rw [rounds_succ]
    go_wp2
    all_goals go_ret
    all_goals exact ⟨congrArg (fun b => Ending.returned (.bool b)) (decide_eq_false (by omega)).symm, _, rfl⟩
  · have hn := run_next_end (P := Tryz.prog) w s 0 0 h
    go_enter Tryz.func151, Tryz.ntmps151
    go_wp2
    refine wp_loop_rounds 1 ?_
    rw [rounds_succ]
    go_wp2
    all_goals go_ret
    all_goals exact ⟨congrArg (fun b => Ending.returned (.bool b)) (decide_eq_true (by omega)).symm, _, rfl⟩

theorem c151 : PrimOk Tryz.prog E 151 prim151 := by
  intro args blk vs bs h
  unfold prim151 at h
  split at h
  · rename_i s
    cases h
    refine ⟨⟨Tryz.f151, Tryz.func151, of_decide_eq_true (by kernel_rfl), by kernel_rfl⟩, fun R ρ own vals w hl ho hrel => ?_⟩
    obtain ⟨v, rfl⟩ : ∃ v, vals = [v] := by
      cases vals with
      | nil => cases hl
      | cons v r =>
        cases r with
        | nil => exact ⟨v, rfl⟩
        | cons _ _ => simp at hl
    have hv : v = .string ⟨s.toArray⟩ := by
      have := (hrel.fr 0).dis
      simp only [Abs.zipFr, Abs.get, nbeq_self, cond_true, AV.dis, AC.dis] at this
      cases this with
      | one _ _ _ hh _ =>
        have e : ([v].toArray.getD 0 undef) = v := by simp
        generalize [v].toArray.getD 0 undef = v' at hh e
        cases hh
        exact e.symm
    subst hv
    refine Calls.mono (walk151 ⟨s.toArray⟩ w) fun e w' he => ?_
    obtain ⟨rfl, pos, rfl⟩ := he
    have hp := hrel.put (dst := some 0) (dis := none) (v := .one (.bool s.isEmpty)) (val := .bool (decide ((⟨s.toArray⟩ : ByteArray).size = 0))) (oV := fun _ => none) (w' := w.iter ⟨s.toArray⟩ pos) (T := fun _ _ => False) (rd := [])
      (fun d hd => by cases hd; simp) (World.keptBut_alloc _ _ _) (fun B off h => h.elim) (fun p B t' h => by cases h) (fun p p' B t t' h => by cases h)
      (fun _ => by
        have e : s.isEmpty = decide ((⟨s.toArray⟩ : ByteArray).size = 0) := by
          cases s <;> simp [ByteArray.size]
        rw [e]
        exact .one _ _ _ (.bool _) (fun _ _ => rfl))
    exact ⟨[.bool (decide ((⟨s.toArray⟩ : ByteArray).size = 0))], ρ, _, rfl, rfl, fun _ _ h => h, hp.1, hp.2⟩
  · cases h

end Go.Proofs.YtejimgikldiajaaGreat

namespace Go.Proofs.YtejimgikldiajaaGreat

open Go.Abs

set_option maxRecDepth 20000

theorem c138 : CodeOk Tryz.prog 138 F138 := ⟨⟨Tryz.f138, Tryz.func138, of_decide_eq_true (by kernel_rfl), by kernel_rfl, by kernel_rfl, by kernel_rfl, by kernel_rfl⟩⟩

theorem c139 : CodeOk Tryz.prog 139 F139 := ⟨⟨Tryz.f139, Tryz.func139, of_decide_eq_true (by kernel_rfl), by kernel_rfl, by kernel_rfl, by kernel_rfl, by kernel_rfl⟩⟩

theorem c65 : CodeOk Tryz.prog 65 F65 := ⟨⟨Tryz.f65, Tryz.func65, of_decide_eq_true (by kernel_rfl), by kernel_rfl, by kernel_rfl, by kernel_rfl, by kernel_rfl⟩⟩

theorem c67 : CodeOk Tryz.prog 67 F67 := ⟨⟨Tryz.f67, Tryz.func67, of_decide_eq_true (by kernel_rfl), by kernel_rfl, by kernel_rfl, by kernel_rfl, by kernel_rfl⟩⟩

theorem c145 : CodeOk Tryz.prog 145 F145 := ⟨⟨Tryz.f145, Tryz.func145, of_decide_eq_true (by kernel_rfl), by kernel_rfl, by kernel_rfl, by kernel_rfl, by kernel_rfl⟩⟩

theorem c125 : CodeOk Tryz.prog 125 F125 := ⟨⟨Tryz.f125, Tryz.func125, of_decide_eq_true (by kernel_rfl), by kernel_rfl, by kernel_rfl, by kernel_rfl, by kernel_rfl⟩⟩

theorem c133 : CodeOk Tryz.prog 133 F133 := ⟨⟨Tryz.f133, Tryz.func133, of_decide_eq_true (by kernel_rfl), by kernel_rfl, by kernel_rfl, by kernel_rfl, by kernel_rfl⟩⟩

theorem c107 : CodeOk Tryz.prog 107 F107 := ⟨⟨Tryz.f107, Tryz.func107, of_decide_eq_true (by kernel_rfl), by kernel_rfl, by kernel_rfl, by kernel_rfl, by kernel_rfl⟩⟩

theorem c112 : CodeOk Tryz.prog 112 F112 := ⟨⟨Tryz.f112, Tryz.func112, of_decide_eq_true (by kernel_rfl), by kernel_rfl, by kernel_rfl, by kernel_rfl, by kernel_rfl⟩⟩

theorem c140 : CodeOk Tryz.prog 140 F140 := ⟨⟨Tryz.f140, Tryz.func140, of_decide_eq_true (by kernel_rfl), by kernel_rfl, by kernel_rfl, by kernel_rfl, by kernel_rfl⟩⟩

theorem c127 : CodeOk Tryz.prog 127 F127 := ⟨⟨Tryz.f127, Tryz.func127, of_decide_eq_true (by kernel_rfl), by kernel_rfl, by kernel_rfl, by kernel_rfl, by kernel_rfl⟩⟩

theorem c126 : CodeOk Tryz.prog 126 F126 := ⟨⟨Tryz.f126, Tryz.func126, of_decide_eq_true (by kernel_rfl), by kernel_rfl, by kernel_rfl, by kernel_rfl, by kernel_rfl⟩⟩

theorem c108 : CodeOk Tryz.prog 108 F108 := ⟨⟨Tryz.f108, Tryz.func108, of_decide_eq_true (by kernel_rfl), by kernel_rfl, by kernel_rfl, by kernel_rfl, by kernel_rfl⟩⟩

theorem c113 : CodeOk Tryz.prog 113 F113 := ⟨⟨Tryz.f113, Tryz.func113, of_decide_eq_true (by kernel_rfl), by kernel_rfl, by kernel_rfl, by kernel_rfl, by kernel_rfl⟩⟩

theorem c91 : CodeOk Tryz.prog 91 F91 := ⟨⟨Tryz.f91, Tryz.func91, of_decide_eq_true (by kernel_rfl), by kernel_rfl, by kernel_rfl, by kernel_rfl, by kernel_rfl⟩⟩

theorem c76 : CodeOk Tryz.prog 76 F76 := ⟨⟨Tryz.f76, Tryz.func76, of_decide_eq_true (by kernel_rfl), by kernel_rfl, by kernel_rfl, by kernel_rfl, by kernel_rfl⟩⟩

theorem c85 : CodeOk Tryz.prog 85 F85 := ⟨⟨Tryz.f85, Tryz.func85, of_decide_eq_true (by kernel_rfl), by kernel_rfl, by kernel_rfl, by kernel_rfl, by kernel_rfl⟩⟩

theorem c134 : CodeOk Tryz.prog 134 F134 := ⟨⟨Tryz.f134, Tryz.func134, of_decide_eq_true (by kernel_rfl), by kernel_rfl, by kernel_rfl, by kernel_rfl, by kernel_rfl⟩⟩

theorem c116 : CodeOk Tryz.prog 116 F116 := ⟨⟨Tryz.f116, Tryz.func116, of_decide_eq_true (by kernel_rfl), by kernel_rfl, by kernel_rfl, by kernel_rfl, by kernel_rfl⟩⟩

theorem c33 : CodeOk Tryz.prog 33 F33 := ⟨⟨Tryz.f33, Tryz.func33, of_decide_eq_true (by kernel_rfl), by kernel_rfl, by kernel_rfl, by kernel_rfl, by kernel_rfl⟩⟩

theorem c34 : CodeOk Tryz.prog 34 F34 := ⟨⟨Tryz.f34, Tryz.func34, of_decide_eq_true (by kernel_rfl), by kernel_rfl, by kernel_rfl, by kernel_rfl, by kernel_rfl⟩⟩

theorem c119 : CodeOk Tryz.prog 119 F119 := ⟨⟨Tryz.f119, Tryz.func119, of_decide_eq_true (by kernel_rfl), by kernel_rfl, by kernel_rfl, by kernel_rfl, by kernel_rfl⟩⟩

theorem c61 : CodeOk Tryz.prog 61 F61 := ⟨⟨Tryz.f61, Tryz.func61, of_decide_eq_true (by kernel_rfl), by kernel_rfl, by kernel_rfl, by kernel_rfl, by kernel_rfl⟩⟩

theorem c70 : CodeOk Tryz.prog 70 F70 := ⟨⟨Tryz.f70, Tryz.func70, of_decide_eq_true (by kernel_rfl), by kernel_rfl, by kernel_rfl, by kernel_rfl, by kernel_rfl⟩⟩

theorem c38 : CodeOk Tryz.prog 38 F38 := ⟨⟨Tryz.f38, Tryz.func38, of_decide_eq_true (by kernel_rfl), by kernel_rfl, by kernel_rfl, by kernel_rfl, by kernel_rfl⟩⟩

theorem c78 : CodeOk Tryz.prog 78 F78 := ⟨⟨Tryz.f78, Tryz.func78, of_decide_eq_true (by kernel_rfl), by kernel_rfl, by kernel_rfl, by kernel_rfl, by kernel_rfl⟩⟩

theorem c86 : CodeOk Tryz.prog 86 F86 := ⟨⟨Tryz.f86, Tryz.func86, of_decide_eq_true (by kernel_rfl), by kernel_rfl, by kernel_rfl, by kernel_rfl, by kernel_rfl⟩⟩

theorem c40 : CodeOk Tryz.prog 40 F40 := ⟨⟨Tryz.f40, Tryz.func40, of_decide_eq_true (by kernel_rfl), by kernel_rfl, by kernel_rfl, by kernel_rfl, by kernel_rfl⟩⟩

theorem c27 : CodeOk Tryz.prog 27 F27 := ⟨⟨Tryz.f27, Tryz.func27, of_decide_eq_true (by kernel_rfl), by kernel_rfl, by kernel_rfl, by kernel_rfl, by kernel_rfl⟩⟩

theorem c144 : CodeOk Tryz.prog 144 F144 := ⟨⟨Tryz.f144, Tryz.func144, of_decide_eq_true (by kernel_rfl), by kernel_rfl, by kernel_rfl, by kernel_rfl, by kernel_rfl⟩⟩

theorem c132 : CodeOk Tryz.prog 132 F132 := ⟨⟨Tryz.f132, Tryz.func132, of_decide_eq_true (by kernel_rfl), by kernel_rfl, by kernel_rfl, by kernel_rfl, by kernel_rfl⟩⟩

theorem c131 : CodeOk Tryz.prog 131 F131 := ⟨⟨Tryz.f131, Tryz.func131, of_decide_eq_true (by kernel_rfl), by kernel_rfl, by kernel_rfl, by kernel_rfl, by kernel_rfl⟩⟩

theorem c143 : CodeOk Tryz.prog 143 F143 := ⟨⟨Tryz.f143, Tryz.func143, of_decide_eq_true (by kernel_rfl), by kernel_rfl, by kernel_rfl, by kernel_rfl, by kernel_rfl⟩⟩

theorem c130 : CodeOk Tryz.prog 130 F130 := ⟨⟨Tryz.f130, Tryz.func130, of_decide_eq_true (by kernel_rfl), by kernel_rfl, by kernel_rfl, by kernel_rfl, by kernel_rfl⟩⟩

theorem c111 : CodeOk Tryz.prog 111 F111 := ⟨⟨Tryz.f111, Tryz.func111, of_decide_eq_true (by kernel_rfl), by kernel_rfl, by kernel_rfl, by kernel_rfl, by kernel_rfl⟩⟩

theorem c72 : CodeOk Tryz.prog 72 F72 := ⟨⟨Tryz.f72, Tryz.func72, of_decide_eq_true (by kernel_rfl), by kernel_rfl, by kernel_rfl, by kernel_rfl, by kernel_rfl⟩⟩

theorem c63 : CodeOk Tryz.prog 63 F63 := ⟨⟨Tryz.f63, Tryz.func63, of_decide_eq_true (by kernel_rfl), by kernel_rfl, by kernel_rfl, by kernel_rfl, by kernel_rfl⟩⟩

theorem c26 : CodeOk Tryz.prog 26 F26 := ⟨⟨Tryz.f26, Tryz.func26, of_decide_eq_true (by kernel_rfl), by kernel_rfl, by kernel_rfl, by kernel_rfl, by kernel_rfl⟩⟩

theorem c37 : CodeOk Tryz.prog 37 F37 := ⟨⟨Tryz.f37, Tryz.func37, of_decide_eq_true (by kernel_rfl), by kernel_rfl, by kernel_rfl, by kernel_rfl, by kernel_rfl⟩⟩

theorem c81 : CodeOk Tryz.prog 81 F81 := ⟨⟨Tryz.f81, Tryz.func81, of_decide_eq_true (by kernel_rfl), by kernel_rfl, by kernel_rfl, by kernel_rfl, by kernel_rfl⟩⟩

theorem c89 : CodeOk Tryz.prog 89 F89 := ⟨⟨Tryz.f89, Tryz.func89, of_decide_eq_true (by kernel_rfl), by kernel_rfl, by kernel_rfl, by kernel_rfl, by kernel_rfl⟩⟩

theorem c66 : CodeOk Tryz.prog 66 F66 := ⟨⟨Tryz.f66, Tryz.func66, of_decide_eq_true (by kernel_rfl), by kernel_rfl, by kernel_rfl, by kernel_rfl, by kernel_rfl⟩⟩

theorem c141 : CodeOk Tryz.prog 141 F141 := ⟨⟨Tryz.f141, Tryz.func141, of_decide_eq_true (by kernel_rfl), by kernel_rfl, by kernel_rfl, by kernel_rfl, by kernel_rfl⟩⟩

theorem c114 : CodeOk Tryz.prog 114 F114 := ⟨⟨Tryz.f114, Tryz.func114, of_decide_eq_true (by kernel_rfl), by kernel_rfl, by kernel_rfl, by kernel_rfl, by kernel_rfl⟩⟩

theorem c153 : CodeOk Tryz.prog 153 F153 := ⟨⟨Tryz.f153, Tryz.func153, of_decide_eq_true (by kernel_rfl), by kernel_rfl, by kernel_rfl, by kernel_rfl, by kernel_rfl⟩⟩

theorem c156 : CodeOk Tryz.prog 156 F156 := ⟨⟨Tryz.f156, Tryz.func156, of_decide_eq_true (by kernel_rfl), by kernel_rfl, by kernel_rfl, by kernel_rfl, by kernel_rfl⟩⟩

theorem c152 : CodeOk Tryz.prog 152 F152 := ⟨⟨Tryz.f152, Tryz.func152, of_decide_eq_true (by kernel_rfl), by kernel_rfl, by kernel_rfl, by kernel_rfl, by kernel_rfl⟩⟩

theorem c142 : CodeOk Tryz.prog 142 F142 := ⟨⟨Tryz.f142, Tryz.func142, of_decide_eq_true (by kernel_rfl), by kernel_rfl, by kernel_rfl, by kernel_rfl, by kernel_rfl⟩⟩

theorem c115 : CodeOk Tryz.prog 115 F115 := ⟨⟨Tryz.f115, Tryz.func115, of_decide_eq_true (by kernel_rfl), by kernel_rfl, by kernel_rfl, by kernel_rfl, by kernel_rfl⟩⟩

theorem c128 : CodeOk Tryz.prog 128 F128 := ⟨⟨Tryz.f128, Tryz.func128, of_decide_eq_true (by kernel_rfl), by kernel_rfl, by kernel_rfl, by kernel_rfl, by kernel_rfl⟩⟩

theorem c73 : CodeOk Tryz.prog 73 F73 := ⟨⟨Tryz.f73, Tryz.func73, of_decide_eq_true (by kernel_rfl), by kernel_rfl, by kernel_rfl, by kernel_rfl, by kernel_rfl⟩⟩

theorem c129 : CodeOk Tryz.prog 129 F129 := ⟨⟨Tryz.f129, Tryz.func129, of_decide_eq_true (by kernel_rfl), by kernel_rfl, by kernel_rfl, by kernel_rfl, by kernel_rfl⟩⟩

theorem c74 : CodeOk Tryz.prog 74 F74 := ⟨⟨Tryz.f74, Tryz.func74, of_decide_eq_true (by kernel_rfl), by kernel_rfl, by kernel_rfl, by kernel_rfl, by kernel_rfl⟩⟩

theorem c92 : CodeOk Tryz.prog 92 F92 := ⟨⟨Tryz.f92, Tryz.func92, of_decide_eq_true (by kernel_rfl), by kernel_rfl, by kernel_rfl, by kernel_rfl, by kernel_rfl⟩⟩

theorem c155 : CodeOk Tryz.prog 155 F155 := ⟨⟨Tryz.f155, Tryz.func155, of_decide_eq_true (by kernel_rfl), by kernel_rfl, by kernel_rfl, by kernel_rfl, by kernel_rfl⟩⟩

theorem c150 : CodeOk Tryz.prog 150 F150 := ⟨⟨Tryz.f150, Tryz.func150, of_decide_eq_true (by kernel_rfl), by kernel_rfl, by kernel_rfl, by kernel_rfl, by kernel_rfl⟩⟩

theorem c154 : CodeOk Tryz.prog 154 F154 := ⟨⟨Tryz.f154, Tryz.func154, of_decide_eq_true (by kernel_rfl), by kernel_rfl, by kernel_rfl, by kernel_rfl, by kernel_rfl⟩⟩

theorem c149 : CodeOk Tryz.prog 149 F149 := ⟨⟨Tryz.f149, Tryz.func149, of_decide_eq_true (by kernel_rfl), by kernel_rfl, by kernel_rfl, by kernel_rfl, by kernel_rfl⟩⟩

theorem c146 : CodeOk Tryz.prog 146 F146 := ⟨⟨Tryz.f146, Tryz.func146, of_decide_eq_true (by kernel_rfl), by kernel_rfl, by kernel_rfl, by kernel_rfl, by kernel_rfl⟩⟩

theorem c135 : CodeOk Tryz.prog 135 F135 := ⟨⟨Tryz.f135, Tryz.func135, of_decide_eq_true (by kernel_rfl), by kernel_rfl, by kernel_rfl, by kernel_rfl, by kernel_rfl⟩⟩

theorem c147 : CodeOk Tryz.prog 147 F147 := ⟨⟨Tryz.f147, Tryz.func147, of_decide_eq_true (by kernel_rfl), by kernel_rfl, by kernel_rfl, by kernel_rfl, by kernel_rfl⟩⟩

theorem c148 : CodeOk Tryz.prog 148 F148 := ⟨⟨Tryz.f148, Tryz.func148, of_decide_eq_true (by kernel_rfl), by kernel_rfl, by kernel_rfl, by kernel_rfl, by kernel_rfl⟩⟩

theorem c136 : CodeOk Tryz.prog 136 F136 := ⟨⟨Tryz.f136, Tryz.func136, of_decide_eq_true (by kernel_rfl), by kernel_rfl, by kernel_rfl, by kernel_rfl, by kernel_rfl⟩⟩

theorem c118 : CodeOk Tryz.prog 118 F118 := ⟨⟨Tryz.f118, Tryz.func118, of_decide_eq_true (by kernel_rfl), by kernel_rfl, by kernel_rfl, by kernel_rfl, by kernel_rfl⟩⟩

theorem c137 : CodeOk Tryz.prog 137 F137 := ⟨⟨Tryz.f137, Tryz.func137, of_decide_eq_true (by kernel_rfl), by kernel_rfl, by kernel_rfl, by kernel_rfl, by kernel_rfl⟩⟩

theorem c120 : CodeOk Tryz.prog 120 F120 := ⟨⟨Tryz.f120, Tryz.func120, of_decide_eq_true (by kernel_rfl), by kernel_rfl, by kernel_rfl, by kernel_rfl, by kernel_rfl⟩⟩

theorem c110 : CodeOk Tryz.prog 110 F110 := ⟨⟨Tryz.f110, Tryz.func110, of_decide_eq_true (by kernel_rfl), by kernel_rfl, by kernel_rfl, by kernel_rfl, by kernel_rfl⟩⟩

theorem c71 : CodeOk Tryz.prog 71 F71 := ⟨⟨Tryz.f71, Tryz.func71, of_decide_eq_true (by kernel_rfl), by kernel_rfl, by kernel_rfl, by kernel_rfl, by kernel_rfl⟩⟩

theorem c39 : CodeOk Tryz.prog 39 F39 := ⟨⟨Tryz.f39, Tryz.func39, of_decide_eq_true (by kernel_rfl), by kernel_rfl, by kernel_rfl, by kernel_rfl, by kernel_rfl⟩⟩

theorem c87 : CodeOk Tryz.prog 87 F87 := ⟨⟨Tryz.f87, Tryz.func87, of_decide_eq_true (by kernel_rfl), by kernel_rfl, by kernel_rfl, by kernel_rfl, by kernel_rfl⟩⟩

theorem c58 : CodeOk Tryz.prog 58 F58 := ⟨⟨Tryz.f58, Tryz.func58, of_decide_eq_true (by kernel_rfl), by kernel_rfl, by kernel_rfl, by kernel_rfl, by kernel_rfl⟩⟩

theorem c19 : CodeOk Tryz.prog 19 F19 := ⟨⟨Tryz.f19, Tryz.func19, of_decide_eq_true (by kernel_rfl), by kernel_rfl, by kernel_rfl, by kernel_rfl, by kernel_rfl⟩⟩

theorem c23 : CodeOk Tryz.prog 23 F23 := ⟨⟨Tryz.f23, Tryz.func23, of_decide_eq_true (by kernel_rfl), by kernel_rfl, by kernel_rfl, by kernel_rfl, by kernel_rfl⟩⟩

theorem c60 : CodeOk Tryz.prog 60 F60 := ⟨⟨Tryz.f60, Tryz.func60, of_decide_eq_true (by kernel_rfl), by kernel_rfl, by kernel_rfl, by kernel_rfl, by kernel_rfl⟩⟩

theorem c69 : CodeOk Tryz.prog 69 F69 := ⟨⟨Tryz.f69, Tryz.func69, of_decide_eq_true (by kernel_rfl), by kernel_rfl, by kernel_rfl, by kernel_rfl, by kernel_rfl⟩⟩

theorem c59 : CodeOk Tryz.prog 59 F59 := ⟨⟨Tryz.f59, Tryz.func59, of_decide_eq_true (by kernel_rfl), by kernel_rfl, by kernel_rfl, by kernel_rfl, by kernel_rfl⟩⟩

theorem c20 : CodeOk Tryz.prog 20 F20 := ⟨⟨Tryz.f20, Tryz.func20, of_decide_eq_true (by kernel_rfl), by kernel_rfl, by kernel_rfl, by kernel_rfl, by kernel_rfl⟩⟩

theorem c21 : CodeOk Tryz.prog 21 F21 := ⟨⟨Tryz.f21, Tryz.func21, of_decide_eq_true (by kernel_rfl), by kernel_rfl, by kernel_rfl, by kernel_rfl, by kernel_rfl⟩⟩

theorem c109 : CodeOk Tryz.prog 109 F109 := ⟨⟨Tryz.f109, Tryz.func109, of_decide_eq_true (by kernel_rfl), by kernel_rfl, by kernel_rfl, by kernel_rfl, by kernel_rfl⟩⟩

theorem c28 : CodeOk Tryz.prog 28 F28 := ⟨⟨Tryz.f28, Tryz.func28, of_decide_eq_true (by kernel_rfl), by kernel_rfl, by kernel_rfl, by kernel_rfl, by kernel_rfl⟩⟩

theorem c62 : CodeOk Tryz.prog 62 F62 := ⟨⟨Tryz.f62, Tryz.func62, of_decide_eq_true (by kernel_rfl), by kernel_rfl, by kernel_rfl, by kernel_rfl, by kernel_rfl⟩⟩

theorem c64 : CodeOk Tryz.prog 64 F64 := ⟨⟨Tryz.f64, Tryz.func64, of_decide_eq_true (by kernel_rfl), by kernel_rfl, by kernel_rfl, by kernel_rfl, by kernel_rfl⟩⟩

theorem c22 : CodeOk Tryz.prog 22 F22 := ⟨⟨Tryz.f22, Tryz.func22, of_decide_eq_true (by kernel_rfl), by kernel_rfl, by kernel_rfl, by kernel_rfl, by kernel_rfl⟩⟩

theorem c8 : CodeOk Tryz.prog 8 F8 := ⟨⟨Tryz.f8, Tryz.func8, of_decide_eq_true (by kernel_rfl), by kernel_rfl, by kernel_rfl, by kernel_rfl, by kernel_rfl⟩⟩

theorem c68 : CodeOk Tryz.prog 68 F68 := ⟨⟨Tryz.f68, Tryz.func68, of_decide_eq_true (by kernel_rfl), by kernel_rfl, by kernel_rfl, by kernel_rfl, by kernel_rfl⟩⟩

theorem c24 : CodeOk Tryz.prog 24 F24 := ⟨⟨Tryz.f24, Tryz.func24, of_decide_eq_true (by kernel_rfl), by kernel_rfl, by kernel_rfl, by kernel_rfl, by kernel_rfl⟩⟩

theorem c29 : CodeOk Tryz.prog 29 F29 := ⟨⟨Tryz.f29, Tryz.func29, of_decide_eq_true (by kernel_rfl), by kernel_rfl, by kernel_rfl, by kernel_rfl, by kernel_rfl⟩⟩

theorem c25 : CodeOk Tryz.prog 25 F25 := ⟨⟨Tryz.f25, Tryz.func25, of_decide_eq_true (by kernel_rfl), by kernel_rfl, by kernel_rfl, by kernel_rfl, by kernel_rfl⟩⟩

theorem c9 : CodeOk Tryz.prog 9 F9 := ⟨⟨Tryz.f9, Tryz.func9, of_decide_eq_true (by kernel_rfl), by kernel_rfl, by kernel_rfl, by kernel_rfl, by kernel_rfl⟩⟩

theorem c84 : CodeOk Tryz.prog 84 F84 := ⟨⟨Tryz.f84, Tryz.func84, of_decide_eq_true (by kernel_rfl), by kernel_rfl, by kernel_rfl, by kernel_rfl, by kernel_rfl⟩⟩

theorem c90 : CodeOk Tryz.prog 90 F90 := ⟨⟨Tryz.f90, Tryz.func90, of_decide_eq_true (by kernel_rfl), by kernel_rfl, by kernel_rfl, by kernel_rfl, by kernel_rfl⟩⟩

theorem c75 : CodeOk Tryz.prog 75 F75 := ⟨⟨Tryz.f75, Tryz.func75, of_decide_eq_true (by kernel_rfl), by kernel_rfl, by kernel_rfl, by kernel_rfl, by kernel_rfl⟩⟩

theorem c31 : CodeOk Tryz.prog 31 F31 := ⟨⟨Tryz.f31, Tryz.func31, of_decide_eq_true (by kernel_rfl), by kernel_rfl, by kernel_rfl, by kernel_rfl, by kernel_rfl⟩⟩

theorem c30 : CodeOk Tryz.prog 30 F30 := ⟨⟨Tryz.f30, Tryz.func30, of_decide_eq_true (by kernel_rfl), by kernel_rfl, by kernel_rfl, by kernel_rfl, by kernel_rfl⟩⟩

theorem c77 : CodeOk Tryz.prog 77 F77 := ⟨⟨Tryz.f77, Tryz.func77, of_decide_eq_true (by kernel_rfl), by kernel_rfl, by kernel_rfl, by kernel_rfl, by kernel_rfl⟩⟩

theorem c80 : CodeOk Tryz.prog 80 F80 := ⟨⟨Tryz.f80, Tryz.func80, of_decide_eq_true (by kernel_rfl), by kernel_rfl, by kernel_rfl, by kernel_rfl, by kernel_rfl⟩⟩

theorem c117 : CodeOk Tryz.prog 117 F117 := ⟨⟨Tryz.f117, Tryz.func117, of_decide_eq_true (by kernel_rfl), by kernel_rfl, by kernel_rfl, by kernel_rfl, by kernel_rfl⟩⟩

theorem c83 : CodeOk Tryz.prog 83 F83 := ⟨⟨Tryz.f83, Tryz.func83, of_decide_eq_true (by kernel_rfl), by kernel_rfl, by kernel_rfl, by kernel_rfl, by kernel_rfl⟩⟩

theorem c79 : CodeOk Tryz.prog 79 F79 := ⟨⟨Tryz.f79, Tryz.func79, of_decide_eq_true (by kernel_rfl), by kernel_rfl, by kernel_rfl, by kernel_rfl, by kernel_rfl⟩⟩

theorem c82 : CodeOk Tryz.prog 82 F82 := ⟨⟨Tryz.f82, Tryz.func82, of_decide_eq_true (by kernel_rfl), by kernel_rfl, by kernel_rfl, by kernel_rfl, by kernel_rfl⟩⟩

theorem c32 : CodeOk Tryz.prog 32 F32 := ⟨⟨Tryz.f32, Tryz.func32, of_decide_eq_true (by kernel_rfl), by kernel_rfl, by kernel_rfl, by kernel_rfl, by kernel_rfl⟩⟩

theorem c10 : CodeOk Tryz.prog 10 F10 := ⟨⟨Tryz.f10, Tryz.func10, of_decide_eq_true (by kernel_rfl), by kernel_rfl, by kernel_rfl, by kernel_rfl, by kernel_rfl⟩⟩

theorem c88 : CodeOk Tryz.prog 88 F88 := ⟨⟨Tryz.f88, Tryz.func88, of_decide_eq_true (by kernel_rfl), by kernel_rfl, by kernel_rfl, by kernel_rfl, by kernel_rfl⟩⟩

theorem c35 : CodeOk Tryz.prog 35 F35 := ⟨⟨Tryz.f35, Tryz.func35, of_decide_eq_true (by kernel_rfl), by kernel_rfl, by kernel_rfl, by kernel_rfl, by kernel_rfl⟩⟩

theorem c36 : CodeOk Tryz.prog 36 F36 := ⟨⟨Tryz.f36, Tryz.func36, of_decide_eq_true (by kernel_rfl), by kernel_rfl, by kernel_rfl, by kernel_rfl, by kernel_rfl⟩⟩

theorem c11 : CodeOk Tryz.prog 11 F11 := ⟨⟨Tryz.f11, Tryz.func11, of_decide_eq_true (by kernel_rfl), by kernel_rfl, by kernel_rfl, by kernel_rfl, by kernel_rfl⟩⟩

theorem c12 : CodeOk Tryz.prog 12 F12 := ⟨⟨Tryz.f12, Tryz.func12, of_decide_eq_true (by kernel_rfl), by kernel_rfl, by kernel_rfl, by kernel_rfl, by kernel_rfl⟩⟩

theorem c6 : CodeOk Tryz.prog 6 F6 := ⟨⟨Tryz.f6, Tryz.func6, of_decide_eq_true (by kernel_rfl), by kernel_rfl, by kernel_rfl, by kernel_rfl, by kernel_rfl⟩⟩

theorem c7 : CodeOk Tryz.prog 7 F7 := ⟨⟨Tryz.f7, Tryz.func7, of_decide_eq_true (by kernel_rfl), by kernel_rfl, by kernel_rfl, by kernel_rfl, by kernel_rfl⟩⟩

theorem c3 : CodeOk Tryz.prog 3 F3 := ⟨⟨Tryz.f3, Tryz.func3, of_decide_eq_true (by kernel_rfl), by kernel_rfl, by kernel_rfl, by kernel_rfl, by kernel_rfl⟩⟩

theorem c4 : CodeOk Tryz.prog 4 F4 := ⟨⟨Tryz.f4, Tryz.func4, of_decide_eq_true (by kernel_rfl), by kernel_rfl, by kernel_rfl, by kernel_rfl, by kernel_rfl⟩⟩

theorem c105 : CodeOk Tryz.prog 105 F105 := ⟨⟨Tryz.f105, Tryz.func105, of_decide_eq_true (by kernel_rfl), by kernel_rfl, by kernel_rfl, by kernel_rfl, by kernel_rfl⟩⟩

theorem c106 : CodeOk Tryz.prog 106 F106 := ⟨⟨Tryz.f106, Tryz.func106, of_decide_eq_true (by kernel_rfl), by kernel_rfl, by kernel_rfl, by kernel_rfl, by kernel_rfl⟩⟩

theorem c57 : CodeOk Tryz.prog 57 F57 := ⟨⟨Tryz.f57, Tryz.func57, of_decide_eq_true (by kernel_rfl), by kernel_rfl, by kernel_rfl, by kernel_rfl, by kernel_rfl⟩⟩

theorem c53 : CodeOk Tryz.prog 53 F53 := ⟨⟨Tryz.f53, Tryz.func53, of_decide_eq_true (by kernel_rfl), by kernel_rfl, by kernel_rfl, by kernel_rfl, by kernel_rfl⟩⟩

theorem c54 : CodeOk Tryz.prog 54 F54 := ⟨⟨Tryz.f54, Tryz.func54, of_decide_eq_true (by kernel_rfl), by kernel_rfl, by kernel_rfl, by kernel_rfl, by kernel_rfl⟩⟩

theorem c104 : CodeOk Tryz.prog 104 F104 := ⟨⟨Tryz.f104, Tryz.func104, of_decide_eq_true (by kernel_rfl), by kernel_rfl, by kernel_rfl, by kernel_rfl, by kernel_rfl⟩⟩

theorem c17 : CodeOk Tryz.prog 17 F17 := ⟨⟨Tryz.f17, Tryz.func17, of_decide_eq_true (by kernel_rfl), by kernel_rfl, by kernel_rfl, by kernel_rfl, by kernel_rfl⟩⟩

theorem c56 : CodeOk Tryz.prog 56 F56 := ⟨⟨Tryz.f56, Tryz.func56, of_decide_eq_true (by kernel_rfl), by kernel_rfl, by kernel_rfl, by kernel_rfl, by kernel_rfl⟩⟩

theorem c55 : CodeOk Tryz.prog 55 F55 := ⟨⟨Tryz.f55, Tryz.func55, of_decide_eq_true (by kernel_rfl), by kernel_rfl, by kernel_rfl, by kernel_rfl, by kernel_rfl⟩⟩

theorem c103 : CodeOk Tryz.prog 103 F103 := ⟨⟨Tryz.f103, Tryz.func103, of_decide_eq_true (by kernel_rfl), by kernel_rfl, by kernel_rfl, by kernel_rfl, by kernel_rfl⟩⟩

theorem c102 : CodeOk Tryz.prog 102 F102 := ⟨⟨Tryz.f102, Tryz.func102, of_decide_eq_true (by kernel_rfl), by kernel_rfl, by kernel_rfl, by kernel_rfl, by kernel_rfl⟩⟩

theorem c51 : CodeOk Tryz.prog 51 F51 := ⟨⟨Tryz.f51, Tryz.func51, of_decide_eq_true (by kernel_rfl), by kernel_rfl, by kernel_rfl, by kernel_rfl, by kernel_rfl⟩⟩

theorem c52 : CodeOk Tryz.prog 52 F52 := ⟨⟨Tryz.f52, Tryz.func52, of_decide_eq_true (by kernel_rfl), by kernel_rfl, by kernel_rfl, by kernel_rfl, by kernel_rfl⟩⟩

theorem c16 : CodeOk Tryz.prog 16 F16 := ⟨⟨Tryz.f16, Tryz.func16, of_decide_eq_true (by kernel_rfl), by kernel_rfl, by kernel_rfl, by kernel_rfl, by kernel_rfl⟩⟩

theorem c98 : CodeOk Tryz.prog 98 F98 := ⟨⟨Tryz.f98, Tryz.func98, of_decide_eq_true (by kernel_rfl), by kernel_rfl, by kernel_rfl, by kernel_rfl, by kernel_rfl⟩⟩

theorem c122 : CodeOk Tryz.prog 122 F122 := ⟨⟨Tryz.f122, Tryz.func122, of_decide_eq_true (by kernel_rfl), by kernel_rfl, by kernel_rfl, by kernel_rfl, by kernel_rfl⟩⟩

theorem c41 : CodeOk Tryz.prog 41 F41 := ⟨⟨Tryz.f41, Tryz.func41, of_decide_eq_true (by kernel_rfl), by kernel_rfl, by kernel_rfl, by kernel_rfl, by kernel_rfl⟩⟩

theorem c42 : CodeOk Tryz.prog 42 F42 := ⟨⟨Tryz.f42, Tryz.func42, of_decide_eq_true (by kernel_rfl), by kernel_rfl, by kernel_rfl, by kernel_rfl, by kernel_rfl⟩⟩

theorem c48 : CodeOk Tryz.prog 48 F48 := ⟨⟨Tryz.f48, Tryz.func48, of_decide_eq_true (by kernel_rfl), by kernel_rfl, by kernel_rfl, by kernel_rfl, by kernel_rfl⟩⟩

theorem c96 : CodeOk Tryz.prog 96 F96 := ⟨⟨Tryz.f96, Tryz.func96, of_decide_eq_true (by kernel_rfl), by kernel_rfl, by kernel_rfl, by kernel_rfl, by kernel_rfl⟩⟩

theorem c49 : CodeOk Tryz.prog 49 F49 := ⟨⟨Tryz.f49, Tryz.func49, of_decide_eq_true (by kernel_rfl), by kernel_rfl, by kernel_rfl, by kernel_rfl, by kernel_rfl⟩⟩

theorem c14 : CodeOk Tryz.prog 14 F14 := ⟨⟨Tryz.f14, Tryz.func14, of_decide_eq_true (by kernel_rfl), by kernel_rfl, by kernel_rfl, by kernel_rfl, by kernel_rfl⟩⟩

theorem c99 : CodeOk Tryz.prog 99 F99 := ⟨⟨Tryz.f99, Tryz.func99, of_decide_eq_true (by kernel_rfl), by kernel_rfl, by kernel_rfl, by kernel_rfl, by kernel_rfl⟩⟩

theorem c95 : CodeOk Tryz.prog 95 F95 := ⟨⟨Tryz.f95, Tryz.func95, of_decide_eq_true (by kernel_rfl), by kernel_rfl, by kernel_rfl, by kernel_rfl, by kernel_rfl⟩⟩

theorem c94 : CodeOk Tryz.prog 94 F94 := ⟨⟨Tryz.f94, Tryz.func94, of_decide_eq_true (by kernel_rfl), by kernel_rfl, by kernel_rfl, by kernel_rfl, by kernel_rfl⟩⟩

theorem c93 : CodeOk Tryz.prog 93 F93 := ⟨⟨Tryz.f93, Tryz.func93, of_decide_eq_true (by kernel_rfl), by kernel_rfl, by kernel_rfl, by kernel_rfl, by kernel_rfl⟩⟩

theorem c43 : CodeOk Tryz.prog 43 F43 := ⟨⟨Tryz.f43, Tryz.func43, of_decide_eq_true (by kernel_rfl), by kernel_rfl, by kernel_rfl, by kernel_rfl, by kernel_rfl⟩⟩

theorem c101 : CodeOk Tryz.prog 101 F101 := ⟨⟨Tryz.f101, Tryz.func101, of_decide_eq_true (by kernel_rfl), by kernel_rfl, by kernel_rfl, by kernel_rfl, by kernel_rfl⟩⟩

theorem c45 : CodeOk Tryz.prog 45 F45 := ⟨⟨Tryz.f45, Tryz.func45, of_decide_eq_true (by kernel_rfl), by kernel_rfl, by kernel_rfl, by kernel_rfl, by kernel_rfl⟩⟩

theorem c123 : CodeOk Tryz.prog 123 F123 := ⟨⟨Tryz.f123, Tryz.func123, of_decide_eq_true (by kernel_rfl), by kernel_rfl, by kernel_rfl, by kernel_rfl, by kernel_rfl⟩⟩

theorem c124 : CodeOk Tryz.prog 124 F124 := ⟨⟨Tryz.f124, Tryz.func124, of_decide_eq_true (by kernel_rfl), by kernel_rfl, by kernel_rfl, by kernel_rfl, by kernel_rfl⟩⟩

theorem c100 : CodeOk Tryz.prog 100 F100 := ⟨⟨Tryz.f100, Tryz.func100, of_decide_eq_true (by kernel_rfl), by kernel_rfl, by kernel_rfl, by kernel_rfl, by kernel_rfl⟩⟩

theorem c121 : CodeOk Tryz.prog 121 F121 := ⟨⟨Tryz.f121, Tryz.func121, of_decide_eq_true (by kernel_rfl), by kernel_rfl, by kernel_rfl, by kernel_rfl, by kernel_rfl⟩⟩

theorem c97 : CodeOk Tryz.prog 97 F97 := ⟨⟨Tryz.f97, Tryz.func97, of_decide_eq_true (by kernel_rfl), by kernel_rfl, by kernel_rfl, by kernel_rfl, by kernel_rfl⟩⟩

theorem c50 : CodeOk Tryz.prog 50 F50 := ⟨⟨Tryz.f50, Tryz.func50, of_decide_eq_true (by kernel_rfl), by kernel_rfl, by kernel_rfl, by kernel_rfl, by kernel_rfl⟩⟩

theorem c15 : CodeOk Tryz.prog 15 F15 := ⟨⟨Tryz.f15, Tryz.func15, of_decide_eq_true (by kernel_rfl), by kernel_rfl, by kernel_rfl, by kernel_rfl, by kernel_rfl⟩⟩

theorem c46 : CodeOk Tryz.prog 46 F46 := ⟨⟨Tryz.f46, Tryz.func46, of_decide_eq_true (by kernel_rfl), by kernel_rfl, by kernel_rfl, by kernel_rfl, by kernel_rfl⟩⟩

theorem c47 : CodeOk Tryz.prog 47 F47 := ⟨⟨Tryz.f47, Tryz.func47, of_decide_eq_true (by kernel_rfl), by kernel_rfl, by kernel_rfl, by kernel_rfl, by kernel_rfl⟩⟩

theorem c44 : CodeOk Tryz.prog 44 F44 := ⟨⟨Tryz.f44, Tryz.func44, of_decide_eq_true (by kernel_rfl), by kernel_rfl, by kernel_rfl, by kernel_rfl, by kernel_rfl⟩⟩

theorem funcsOk : FuncsOk Tryz.prog E := by
  refine funcsOk_of (l := fnTab) rfl ?_
  unfold fnTab
  exact ⟨c44, c47, c46, c15, c50, c97, c121, c100, c124, c123, c45, c101, c43, c93, c94, c95, c99, c14, c49, c96, c48, c42, c41, c122, c98, c16, c52, c51, c102, c103, c55, c56, c17, c104, c54, c53, c57, c106, c105, c4, c3, c7, c6, c12, c11, c36, c35, c88, c10, c32, c82, c79, c83, c117, c80, c77, c30, c31, c75, c90, c84, c9, c25, c29, c24, c68, c8, c22, c64, c62, c28, c109, c21, c20, c59, c69, c60, c23, c19, c58, c18, c87, c39, c71, c110, c120, c137, c118, c136, c148, c147, c135, c146, c149, c154, c150, c155, c92, c74, c129, c73, c128, c115, c142, c152, c156, c153, c114, c141, c151, c66, c89, c81, c37, c26, c63, c72, c111, c130, c143, c131, c132, c144, c27, c40, c86, c78, c38, c70, c61, c119, c34, c33, c116, c134, c85, c76, c91, c113, c108, c126, c127, c140, c112, c107, c133, c125, c145, c67, c65, c139, c138, trivial⟩

theorem mixed : Tryz.prog.follows .mixedOrders = true := by kernel_rfl

theorem ownk : ownKnob Tryz.prog.godebug = none := by kernel_rfl

end Go.Proofs.YtejimgikldiajaaGreat
