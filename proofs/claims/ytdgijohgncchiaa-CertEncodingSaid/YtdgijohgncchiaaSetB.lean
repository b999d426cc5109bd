/-
  The contracts of the reference's functions over sets of proposals.
-/
import Derived.Test.YtdgijohgncchiaaSetA
namespace Go.Proofs.Ytdgijohgncchiaa
open Go.Abs

theorem l48 (c : List (List Cell)) (a n : Int) (p : List (List Cell)) (hc : c.length ≤ 1000) : ∀ (d i : Nat), i + d = c.length →
    ∃ m, goF E (callOf L42) F48 0 m P48_0 (M48_0 c i a n p) = some ([.one (.bool (hasK (c.drop i) (prow a n p)))], [])
  | 0, i, hi => by
    refine ⟨1, ?_⟩
    rw [e48_0]
    have : c.drop i = [] := List.drop_eq_nil_of_le (by omega)
    rw [this]
    exact cf (decide_eq_false (by omega)) rfl
  | d + 1, i, hi => by
    have hi' : i < c.length := by omega
    obtain ⟨m, hm⟩ := l48 c a n p hc d (i + 1) (by omega)
    refine ⟨m + 1, ?_⟩
    have c1 := cmp_eq (Abs.rowAt c i) (prow a n p)
    rw [e48_0, Int.toNat_natCast, drop_cons c i hi', hasK_cons, nat_wrap (n := c.length) hi' (by omega), hm]
    refine ct (decide_eq_true (by omega)) (ct (inB_nat' hi') ?_)
    cases hk : kEq (Abs.rowAt c i) (prow a n p)
    · exact cf (c1.trans hk) rfl
    · exact ct (c1.trans hk) rfl

theorem k48 (c : List (List Cell)) (a n : Int) (p : List (List Cell)) (h : okLn c = true) : ∃ m, runF E (callOf L42) m 48 [.one (.sl false 53 c), .agg [.int .i64 a, .int .i64 n, .sl false 50 p]] [] = some ([.one (.bool (hasK c (prow a n p)))], []) := by
  obtain ⟨m, hm⟩ := l48 c a n p (okLn_of h) c.length 0 (by omega)
  exact ⟨m + 1, by rw [e48]; exact hm⟩

theorem l25 (c d : List (List Cell)) (hs : okLn c = true) (hd : d.length ≤ 1000) : ∀ (e i : Nat), i + e = d.length →
    ∃ m, goF E (callOf L48) F25 0 m P25_0 (M25_0 c d i) = some ([.one (.bool (contK c (d.drop i)))], [])
  | 0, i, hi => by
    refine ⟨1, ?_⟩
    rw [e25_0]
    have : d.drop i = [] := List.drop_eq_nil_of_le (by omega)
    rw [this]
    exact cf (decide_eq_false (by omega)) rfl
  | e + 1, i, hi => by
    have hi' : i < d.length := by omega
    obtain ⟨m, hm⟩ := l25 c d hs hd e (i + 1) (by omega)
    refine ⟨m + 1, ?_⟩
    rw [e25_0, Int.toNat_natCast, drop_cons d i hi', hasK_prow]
    refine ct (decide_eq_true (by omega)) (ct (inB_nat' hi') (ct hs ?_))
    unfold contK at hm ⊢
    rw [List.all_cons, nat_wrap (n := d.length) hi' (by omega), hm]
    cases hasK c (Abs.rowAt d i) <;> rfl

theorem k25 (c d : List (List Cell)) (h : (okLn c && okLn d) = true) : ∃ m, runF E (callOf L48) m 25 [.one (.sl false 53 c), .one (.sl false 53 d)] [] = some ([.one (.bool (contK c d))], []) := by
  simp only [Bool.and_eq_true] at h
  obtain ⟨m, hm⟩ := l25 c d h.1 (okLn_of h.2) d.length 0 (by omega)
  exact ⟨m + 1, by rw [e25]; exact hm⟩

theorem mrgF_nilr (n : Nat) (a : List (List Cell)) (h : a.length < n) : mrgF n a [] = a := by
  cases n with
  | zero => omega
  | succ n => cases a <;> rfl

theorem in60 (c d : List (List Cell)) (hd : d.length ≤ 1000) (hs : shortRows c = true) (i : Nat) (hi : i < c.length) (hc : c.length ≤ 1000) (R : Bool) (hR : ∃ m, goF E (callOf L25) F60 0 m P60_0 (M60_0 c d ((i + 1 : Nat) : Int)) = some ([.one (.bool R)], [])) : ∀ (e k : Nat), k + e = d.length →
    ∃ m, goF E (callOf L25) F60 0 m P60_1 (M60_1 c d i k) = some ([.one (.bool (((d.drop k).all fun q => !kEq (Abs.rowAt c i) q || eqPR (Abs.rowAt c i) q) && R))], [])
  | 0, k, hk => by
    obtain ⟨m, hm⟩ := hR
    refine ⟨m + 1, ?_⟩
    have : d.drop k = [] := List.drop_eq_nil_of_le (by omega)
    rw [e60_1, this, nat_wrap (n := c.length) hi (by omega), hm]
    exact cf (decide_eq_false (by omega)) rfl
  | e + 1, k, hk => by
    have hk' : k < d.length := by omega
    obtain ⟨m, hm⟩ := in60 c d hd hs i hi hc R hR e (k + 1) (by omega)
    refine ⟨m + 1, ?_⟩
    have c1 := cmp_eq (Abs.rowAt c i) (Abs.rowAt d k)
    rw [e60_1, Int.toNat_natCast, Int.toNat_natCast, drop_cons d k hk', List.all_cons, nat_wrap (n := d.length) hk' (by omega), hm]
    refine ct (decide_eq_true (by omega)) (ct (inB_nat' hi) (ct (inB_nat' hk') ?_))
    cases hq : kEq (Abs.rowAt c i) (Abs.rowAt d k) with
    | false =>
      refine cf (c1.trans hq) ?_
      rfl
    | true =>
      refine ct (c1.trans hq) (ct (inB_nat' hi) (ct (inB_nat' hk') (ct (decide_eq_true (short_at hs hi)) ?_)))
      show cond (!(eqPR (Abs.rowAt c i) (Abs.rowAt d k))) _ _ = _
      cases eqPR (Abs.rowAt c i) (Abs.rowAt d k) <;> rfl

theorem l60 (c d : List (List Cell)) (hc : c.length ≤ 1000) (hd : d.length ≤ 1000) (hs : shortRows c = true) : ∀ (e i : Nat), i + e = c.length →
    ∃ m, goF E (callOf L25) F60 0 m P60_0 (M60_0 c d i) = some ([.one (.bool (agrC (c.drop i) d))], [])
  | 0, i, hi => by
    refine ⟨1, ?_⟩
    have : c.drop i = [] := List.drop_eq_nil_of_le (by omega)
    rw [e60_0, this]
    exact cf (decide_eq_false (by omega)) rfl
  | e + 1, i, hi => by
    have hi' : i < c.length := by omega
    obtain ⟨m, hm⟩ := in60 c d hd hs i hi' hc _ (l60 c d hc hd hs e (i + 1) (by omega)) d.length 0 (by omega)
    refine ⟨m + 1, ?_⟩
    rw [e60_0, drop_cons c i hi']
    exact ct (decide_eq_true (by omega)) hm

theorem k60 (c d : List (List Cell)) (h : (okRows c && okLn d) = true) : ∃ m, runF E (callOf L25) m 60 [.one (.sl false 53 c), .one (.sl false 53 d)] [] = some ([.one (.bool (agrC c d))], []) := by
  simp only [Bool.and_eq_true] at h
  obtain ⟨h1, h2⟩ := okRows_of h.1
  obtain ⟨m, hm⟩ := l60 c d h1 (okLn_of h.2) h2 c.length 0 (by omega)
  exact ⟨m + 1, by rw [e60]; exact hm⟩

theorem okCs_at {l : List (List Cell)} (h : okCs l = true) {i : Nat} (hi : i < l.length) : okRows (nl (Abs.rowAt l i) 0) = true := by
  unfold okCs at h
  simp only [Bool.and_eq_true] at h
  exact List.all_eq_true.1 h.2 _ (rowAt_mem hi)

theorem in34 (l : List (List Cell)) (ho : okCs l = true) (i : Nat) (hi : i < l.length) (hl : l.length ≤ 1000) (R : Bool) (hR : ∃ m, goF E (callOf L60) F34 0 m P34_0 (M34_0 l ((i + 1 : Nat) : Int)) = some ([.one (.bool R)], [])) : ∀ (e k : Nat), k + e = i →
    ∃ m, goF E (callOf L60) F34 0 m P34_1 (M34_1 l i k) = some ([.one (.bool ((((l.take i).drop k).all fun y => agrC (nl (Abs.rowAt l i) 0) (nl y 0)) && R))], [])
  | 0, k, hk => by
    obtain ⟨m, hm⟩ := hR
    refine ⟨m + 1, ?_⟩
    have : (l.take i).drop k = [] := List.drop_eq_nil_of_le (by simp; omega)
    rw [e34_1, this, nat_wrap (n := l.length) hi (by omega), hm]
    exact cf (decide_eq_false (by omega)) rfl
  | e + 1, k, hk => by
    have hk' : k < (l.take i).length := by simp; omega
    obtain ⟨m, hm⟩ := in34 l ho i hi hl R hR e (k + 1) (by omega)
    refine ⟨m + 1, ?_⟩
    have h1 := okCs_at ho hi
    have h2 := okCs_at ho (show k < l.length by omega)
    have h3 : okLn (nl (Abs.rowAt l k) 0) = true := okLn_mk (okRows_of h2).1
    rw [e34_1, Int.toNat_natCast, Int.toNat_natCast, drop_cons (l.take i) k hk', List.all_cons, nat_wrap (n := l.length) (show k < l.length by omega) (by omega), hm, rowAt_take l i k (by omega)]
    refine ct (decide_eq_true (by omega)) (ct (inB_nat' hi) (ct (inB_nat' (by omega)) (ct (by rw [h1, h3]; rfl) ?_)))
    cases agrC (nl (Abs.rowAt l i) 0) (nl (Abs.rowAt l k) 0) <;> rfl

theorem l34 (l : List (List Cell)) (ho : okCs l = true) (hl : l.length ≤ 1000) : ∀ (e i : Nat), i + e = l.length →
    ∃ m, goF E (callOf L60) F34 0 m P34_0 (M34_0 l i) = some ([.one (.bool (validF (l.take i) (l.drop i)))], [])
  | 0, i, hi => by
    refine ⟨1, ?_⟩
    have : l.drop i = [] := List.drop_eq_nil_of_le (by omega)
    rw [e34_0, this]
    exact cf (decide_eq_false (by omega)) rfl
  | e + 1, i, hi => by
    have hi' : i < l.length := by omega
    obtain ⟨m, hm⟩ := in34 l ho i hi' hl _ (l34 l ho hl e (i + 1) (by omega)) i 0 (by omega)
    refine ⟨m + 1, ?_⟩
    rw [List.drop_zero] at hm
    rw [e34_0, Int.toNat_natCast, drop_cons l i hi', validF, ← take_snoc l i hi']
    refine ct (decide_eq_true (by omega)) (ct (inB_nat' hi') (ct (okCs_at ho hi') ?_))
    by_cases hv : vCfg (nl (Abs.rowAt l i) 0) = 0
    · rw [decide_eq_true hv, Bool.true_and]
      exact cf (by simpa using hv) hm
    · rw [decide_eq_false hv, Bool.false_and]
      exact ct (by simpa using hv) rfl

theorem k34 (l : List (List Cell)) (h : okCs l = true) : ∃ m, runF E (callOf L60) m 34 [.one (.sl false 23 l)] [] = some ([.one (.bool (validCs l))], []) := by
  have h' := h
  unfold okCs at h'
  simp only [Bool.and_eq_true, decide_eq_true_eq] at h'
  obtain ⟨m, hm⟩ := l34 l h h'.1 l.length 0 (by omega)
  exact ⟨m + 1, by rw [e34]; exact hm⟩

theorem l67 (v : List (List Cell)) (a : Int) (hv : v.length ≤ 1000) : ∀ (d i : Nat), i + d = v.length →
    ∃ m, goF E (callOf L34) F67 0 m P67_0 (M67_0 v a i) = some ([.one (.int .i64 (cntV (v.drop i) a))], [])
  | 0, i, hi => by
    refine ⟨1, ?_⟩
    have : v.drop i = [] := List.drop_eq_nil_of_le (by omega)
    rw [e67_0, this]
    exact cf (decide_eq_false (by omega)) rfl
  | d + 1, i, hi => by
    have hi' : i < v.length := by omega
    obtain ⟨m, hm⟩ := l67 v a hv d (i + 1) (by omega)
    refine ⟨m + 1, ?_⟩
    rw [e67_0, Int.toNat_natCast, drop_cons v i hi', cntV, nat_wrap (n := v.length) hi' (by omega), hm]
    refine ct (decide_eq_true (by omega)) (ct (inB_nat' hi') ?_)
    by_cases h : nr (Abs.rowAt v i) 0 = a
    · rw [if_pos h]
      exact ct (beq_iff_eq.2 h) (ct (inB_nat' hi') rfl)
    · rw [if_neg h]
      exact cf (beq_eq_false_iff_ne.2 h) rfl

theorem k67 (v : List (List Cell)) (a : Int) (h : okLn v = true) : ∃ m, runF E (callOf L34) m 67 [.one (.sl false 69 v), .one (.int .i64 a)] [] = some ([.one (.int .i64 (cntV v a))], []) := by
  obtain ⟨m, hm⟩ := l67 v a (okLn_of h) v.length 0 (by omega)
  exact ⟨m + 1, by rw [e67]; exact hm⟩

theorem en_at {v : List (List Cell)} (h : v.all isEn = true) {i : Nat} (hi : i < v.length) : [Cell.int .i64 (nr (Abs.rowAt v i) 0), Cell.int .i64 (nr (Abs.rowAt v i) 1)] = Abs.rowAt v i :=
  (isEn_eq (List.all_eq_true.1 h _ (rowAt_mem hi))).symm

theorem okEv_of {v : List (List Cell)} (h : okEv v = true) : v.length ≤ 100000 ∧ v.all isEn = true := by
  unfold okEv at h
  simp only [Bool.and_eq_true, decide_eq_true_eq] at h
  exact h

theorem withF_ok {a k : Int} (hk0 : 0 ≤ k) (hk : k ≤ 1000000) : ∀ (v : List (List Cell)) (p : Bool), CntOk v 1000000 → CntOk (withF a k p v) 1000000 ∧ (withF a k p v).length ≤ v.length + 1 ∧ (p = true → (withF a k p v).length ≤ v.length)
  | [], p, h => by
    cases p
    · refine ⟨fun e he => ?_, by simp [withF], by simp⟩
      simp only [withF, Bool.false_eq_true, if_false, List.mem_singleton] at he
      subst he
      exact ⟨rfl, hk0, hk⟩
    · exact ⟨h, by simp [withF], by simp [withF]⟩
  | e :: v, p, h => by
    have he := h e List.mem_cons_self
    have hv : CntOk v 1000000 := fun x hx => h x (List.mem_cons_of_mem _ hx)
    have h1 := withF_ok (a := a) hk0 hk v true hv
    have h2 := withF_ok (a := a) hk0 hk v p hv
    unfold withF
    split
    · rename_i hp
      split
      · refine ⟨fun x hx => ?_, ?_, fun hh => by rw [hp.1] at hh; cases hh⟩
        · rcases List.mem_cons.1 hx with rfl | hx
          · exact ⟨rfl, hk0, hk⟩
          · exact h1.1 x hx
        · have := h1.2.2 rfl
          simp only [List.length_cons]
          omega
      · refine ⟨fun x hx => ?_, ?_, fun hh => by rw [hp.1] at hh; cases hh⟩
        · rcases List.mem_cons.1 hx with rfl | hx
          · exact ⟨rfl, hk0, hk⟩
          · rcases List.mem_cons.1 hx with rfl | hx
            · exact he
            · exact h1.1 x hx
        · have := h1.2.2 rfl
          simp only [List.length_cons]
          omega
    · split
      · refine ⟨h2.1, ?_, fun hh => ?_⟩
        · have := h2.2.1
          simp only [List.length_cons]
          omega
        · have := h2.2.2 hh
          simp only [List.length_cons]
          omega
      · refine ⟨fun x hx => ?_, ?_, fun hh => ?_⟩
        · rcases List.mem_cons.1 hx with rfl | hx
          · exact he
          · exact h2.1 x hx
        · have := h2.2.1
          simp only [List.length_cons]
          omega
        · have := h2.2.2 hh
          simp only [List.length_cons]
          omega

theorem withV_ok {v : List (List Cell)} (h : CntOk v 1000000) (a k : Int) : CntOk (withV v a k) 1000000 ∧ (withV v a k).length ≤ v.length + 1 := by
  unfold withV
  split
  · exact ⟨h, by omega⟩
  · rename_i hh
    have := withF_ok (a := a) (k := k) (by omega) (by omega) v (decide (k = 0)) h
    exact ⟨this.1, this.2.1⟩

theorem cnt_en {v : List (List Cell)} {k : Nat} (h : CntOk v k) : v.all isEn = true := List.all_eq_true.2 fun e he => (h e he).1

theorem okJn_of {v w : List (List Cell)} (h : okJn v w = true) : v.length + w.length ≤ 1000 ∧ v.all isEn = true := by
  unfold okJn at h
  simp only [Bool.and_eq_true, decide_eq_true_eq] at h
  exact h

theorem withF_en {a k : Int} : ∀ (v : List (List Cell)) (p : Bool), v.all isEn = true → (withF a k p v).all isEn = true ∧ (withF a k p v).length ≤ v.length + 1 ∧ (p = true → (withF a k p v).length ≤ v.length)
  | [], p, h => by
    cases p
    · exact ⟨rfl, by simp [withF], by simp⟩
    · exact ⟨h, by simp [withF], by simp [withF]⟩
  | e :: v, p, h => by
    rw [List.all_cons, Bool.and_eq_true] at h
    have h1 := withF_en (a := a) (k := k) v true h.2
    have h2 := withF_en (a := a) (k := k) v p h.2
    have he : isEn (ent a k) = true := rfl
    unfold withF
    split
    · rename_i hp
      have := h1.2.2 rfl
      split
      · refine ⟨by rw [List.all_cons, he, h1.1]; rfl, by simp only [List.length_cons]; omega, fun hh => by rw [hp.1] at hh; cases hh⟩
      · refine ⟨by rw [List.all_cons, List.all_cons, he, h.1, h1.1]; rfl, by simp only [List.length_cons]; omega, fun hh => by rw [hp.1] at hh; cases hh⟩
    · split
      · refine ⟨h2.1, ?_, fun hh => ?_⟩
        · have := h2.2.1
          simp only [List.length_cons]
          omega
        · have := h2.2.2 hh
          simp only [List.length_cons]
          omega
      · refine ⟨by rw [List.all_cons, h.1, h2.1]; rfl, ?_, fun hh => ?_⟩
        · have := h2.2.1
          simp only [List.length_cons]
          omega
        · have := h2.2.2 hh
          simp only [List.length_cons]
          omega

theorem withV_en {v : List (List Cell)} (h : v.all isEn = true) (a k : Int) : (withV v a k).all isEn = true ∧ (withV v a k).length ≤ v.length + 1 := by
  unfold withV
  split
  · exact ⟨h, by omega⟩
  · have := withF_en (a := a) (k := k) v (decide (k = 0)) h
    exact ⟨this.1, this.2.1⟩

theorem min_if (x y : Int) : (if y < x then y else x) = min x y := by
  split <;> omega

theorem vVecF_first (q q' : List Cell) (l : List (List Cell)) : vVecF true q l = vVecF true q' l := by
  cases l <;> simp [vVecF]

theorem l47 (c b : List (List Cell)) (hb : okLn b = true) (hc : c.length ≤ 1000) (hp : c.all isPR = true) : ∀ (d i : Nat) (v : List (List Cell)), i + d = c.length → v.length ≤ i →
    ∃ m, goF E (callOf L67) F47 0 m P47_0 (M47_0 c b v i) = some ([.one (.sl false 53 (v ++ restr (c.drop i) b))], [])
  | 0, i, v, hi, hv => by
    refine ⟨1, ?_⟩
    have : c.drop i = [] := List.drop_eq_nil_of_le (by omega)
    rw [e47_0, this]
    refine cf (decide_eq_false (by omega)) ?_
    simp [restr]
  | d + 1, i, v, hi, hv => by
    have hi' : i < c.length := by omega
    have hib := inB_nat' hi'
    by_cases hk : nr (Abs.rowAt c i) 1 ≤ cntV b (nr (Abs.rowAt c i) 0)
    · obtain ⟨m, hm⟩ := l47 c b hb hc hp d (i + 1) (v ++ [Abs.rowAt c i]) (by omega) (by simp; omega)
      refine ⟨m + 1, ?_⟩
      have e1 : restr (c.drop i) b = Abs.rowAt c i :: restr (c.drop (i + 1)) b := by
        rw [drop_cons c i hi']
        unfold restr
        rw [List.filter_cons, if_pos (decide_eq_true hk)]
      rw [e47_0, Int.toNat_natCast, nat_wrap (n := c.length) hi' (by omega), pr_at hp hi', e1]
      rw [List.append_assoc] at hm
      exact ct (decide_eq_true (by omega)) (ct hib (ct hib (ct hb (ct (decide_eq_true hk) (ct hib (ct (fits_of (by simp; omega)) hm))))))
    · obtain ⟨m, hm⟩ := l47 c b hb hc hp d (i + 1) v (by omega) (by omega)
      refine ⟨m + 1, ?_⟩
      have e1 : restr (c.drop i) b = restr (c.drop (i + 1)) b := by
        rw [drop_cons c i hi']
        unfold restr
        rw [List.filter_cons, if_neg (by simpa using hk)]
      rw [e47_0, Int.toNat_natCast, nat_wrap (n := c.length) hi' (by omega), e1]
      exact ct (decide_eq_true (by omega)) (ct hib (ct hib (ct hb (cf (decide_eq_false hk) hm))))

theorem k47 (c v : List (List Cell)) (h : (okCf c && okLn v) = true) : ∃ m, runF E (callOf L67) m 47 [.one (.sl false 53 c), .one (.sl false 69 v)] [] = some ([.one (.sl false 53 (restr c v))], []) := by
  simp only [Bool.and_eq_true] at h
  obtain ⟨h1, h2⟩ := okCf_of h.1
  obtain ⟨m, hm⟩ := l47 c v h.2 h1 h2 c.length 0 [] (by omega) (by simp)
  exact ⟨m + 1, by rw [e47]; exact hm⟩

theorem vecRF_inv : ∀ (c v : List (List Cell)), CntOk v 1000000 → CntOk (vecRF v c) 1000000 ∧ (vecRF v c).length ≤ v.length + c.length
  | [], v, h => ⟨h, Nat.le_refl _⟩
  | r :: c, v, h => by
    have hw := withV_ok h (nr r 0) (cntV v (nr r 0) + 1)
    have := vecRF_inv c (withV v (nr r 0) (cntV v (nr r 0) + 1)) hw.1
    show CntOk (vecRF (withV v (nr r 0) (cntV v (nr r 0) + 1)) c) _ ∧ _
    refine ⟨this.1, ?_⟩
    show (vecRF (withV v (nr r 0) (cntV v (nr r 0) + 1)) c).length ≤ _
    simp only [List.length_cons]
    omega

theorem vecR_cnt (c : List (List Cell)) : CntOk (vecR c) 1000000 ∧ (vecR c).length ≤ c.length := by
  have := vecRF_inv c [] (fun e he => by cases he)
  simpa [vecR] using this

theorem st29 (c : List (List Cell)) (n : Int) (a : Nat) (ha : a < 3) (acc : List (List Cell)) (hacc : acc.length ≤ 10) (R : List AV × List Block) (hR : ∃ m, goF E (callOf L47) F24 0 m P24_0 (M24_0 c n (acc ++ partV1 n a) ((a + 1 : Nat) : Int)) = some R) :
    ∃ m, goF E (callOf L47) F24 0 m P24_0 (M24_0 c n acc a) = some R := by
  obtain ⟨m, hm⟩ := hR
  refine ⟨m + 1, ?_⟩
  rw [e24_0, nat_wrap (n := 3) ha (by omega), wrap64 (n := 201 + (a : Int)) (by omega) (by omega)]
  refine ct (decide_eq_true (by omega)) (ct (by simp; omega) ?_)
  unfold partV1 at hm
  by_cases hg : 0 < gDigit n 4 a
  · rw [if_pos hg] at hm
    exact ct (decide_eq_true hg) (ct (by simp; omega) (ct (fits_of (by simp; omega)) hm))
  · rw [if_neg hg, List.append_nil] at hm
    exact cf (decide_eq_false hg) hm

theorem partV1_len (n : Int) (a : Nat) : (partV1 n a).length ≤ 1 := by
  unfold partV1
  split <;> simp

theorem partV_len (n : Int) : (partV n).length ≤ 3 := by
  have := partV1_len n 0
  have := partV1_len n 1
  have := partV1_len n 2
  unfold partV
  simp only [List.length_append]
  omega

theorem k24 (c : List (List Cell)) (n : Int) (h : okCf c = true) : ∃ m, runF E (callOf L47) m 24 [.one (.sl false 53 c), .one (.int .i64 n)] [] = some ([.one (.sl false 53 (gPart c n))], []) := by
  have h0 := partV1_len n 0
  have h1 := partV1_len n 1
  have h2 := partV1_len n 2
  obtain ⟨m, hm⟩ := st29 c n 0 (by omega) [] (by simp) _ (st29 c n 1 (by omega) _ (by simp; omega) _ (st29 c n 2 (by omega) _ (by simp; omega) _ ⟨1, by
    rw [e24_0]
    refine cf (decide_eq_false (by omega)) (ct (by rw [h, okLn_mk (by simp; omega)]; rfl) rfl)⟩))
  refine ⟨m + 1, ?_⟩
  rw [e24]
  refine Eq.trans hm ?_
  simp [gPart, partV]

end Go.Proofs.Ytdgijohgncchiaa
