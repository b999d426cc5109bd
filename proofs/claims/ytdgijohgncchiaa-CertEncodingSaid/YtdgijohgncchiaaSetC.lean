/-
  Valid sets of proposals; the drawn pools.
-/
import Derived.Test.YtdgijohgncchiaaSetB
import Derived.Test.YtdgijohgncchiaaKeyedV
namespace Go.Proofs.Ytdgijohgncchiaa
open Go.Abs

theorem kLt_cmp {r q : List Cell} : kLt q r = true ↔ ¬ cmpP (nr r 0) (nr r 1) (nr q 0) (nr q 1) ≤ 0 := by
  rw [kLt_iff]
  have := cmpP_cases (nr r 0) (nr r 1) (nr q 0) (nr q 1)
  omega

theorem vCfgF_of : ∀ (l : List (List Cell)) (first : Bool) (q : List Cell), vCfgF first q l = 0 →
    Asc l ∧ (first = false → ∀ r ∈ l, kLt q r = true) ∧ (∀ r ∈ l, vPropR r = 0) ∧ ∀ r ∈ l, 1 < nr r 1 → ∃ p ∈ (if first = true then l else q :: l), nr p 0 = nr r 0 ∧ nr p 1 = nr r 1 - 1
  | [], first, q, _ => ⟨by simp [Asc], fun _ r hr => (by cases hr), fun r hr => (by cases hr), fun r hr => (by cases hr)⟩
  | r :: l, first, q, h => by
    rw [vCfg_step] at h
    by_cases h0 : vPropR r = 0
    · rw [if_neg (by simpa using h0)] at h
      split at h
      · simp at h
      · rename_i h1
        split at h
        · simp at h
        · rename_i h2
          obtain ⟨g1, g2, g3, g4⟩ := vCfgF_of l false r h
          have hq : first = false → kLt q r = true := fun hf => kLt_cmp.2 fun hh => h1 ⟨hf, hh⟩
          refine ⟨asc_cons.2 ⟨g2 rfl, g1⟩, fun hf x hx => ?_, fun x hx => ?_, fun x hx hx1 => ?_⟩
          · rcases List.mem_cons.1 hx with rfl | hx
            · exact hq hf
            · exact kLt_trans (hq hf) (g2 rfl x hx)
          · rcases List.mem_cons.1 hx with rfl | hx
            · exact h0
            · exact g3 x hx
          · rcases List.mem_cons.1 hx with rfl | hx
            · cases first with
              | true => exact absurd ⟨hx1, Or.inl rfl⟩ h2
              | false =>
                refine ⟨q, by simp, ?_⟩
                have e1 : nr q 0 = nr x 0 := Classical.byContradiction fun hh => h2 ⟨hx1, Or.inr (Or.inl hh)⟩
                have e2 : nr q 1 = nr x 1 - 1 := Classical.byContradiction fun hh => h2 ⟨hx1, Or.inr (Or.inr hh)⟩
                exact ⟨e1, e2⟩
            · obtain ⟨p, hp, e⟩ := g4 x hx hx1
              refine ⟨p, ?_, e⟩
              simp only [Bool.false_eq_true, if_false] at hp
              cases first with
              | true => simpa using hp
              | false =>
                simp only [Bool.false_eq_true, if_false]
                exact List.mem_cons_of_mem _ hp
    · rw [if_pos h0] at h
      exact absurd h h0

theorem prop_nums {r : List Cell} (h : vPropR r = 0) : 201 ≤ nr r 0 ∧ nr r 0 < 204 ∧ 1 ≤ nr r 1 ∧ nr r 1 ≤ 3 ∧ okCh (nl r 2) = true := by
  have := vProp_ok h
  refine ⟨this.1, this.2.1, this.2.2.1, this.2.2.2.1, ?_⟩
  unfold okCh
  simp only [Bool.and_eq_true, decide_eq_true_eq]
  omega

theorem valid_of {c : List (List Cell)} (h : vCfg c = 0) : Vld c ∧ ∀ r ∈ c, vPropR r = 0 := by
  obtain ⟨g1, _, g3, g4⟩ := vCfgF_of c true [] h
  refine ⟨⟨g1, fun r hr h1 => ?_, fun r hr => ?_⟩, g3⟩
  · simpa using g4 r hr h1
  · have := prop_nums (g3 r hr)
    omega

theorem vCfgF_mk : ∀ (l pre : List (List Cell)) (q : List Cell), Vld (pre ++ q :: l) → (∀ r ∈ l, vPropR r = 0) → vCfgF false q l = 0
  | [], _, _, _, _ => rfl
  | r :: l, pre, q, hV, hp => by
    have hs := List.pairwise_append.1 hV.asc
    have hql := asc_cons.1 hs.2.1
    have hqr := hql.1 r List.mem_cons_self
    rw [vCfg_step, if_neg (by simpa using hp r List.mem_cons_self), if_neg (fun hh => kLt_cmp.1 hqr hh.2), if_neg, vCfgF_mk l (pre ++ [q]) r (by rw [List.append_assoc]; exact hV) fun x hx => hp x (List.mem_cons_of_mem _ hx)]
    rintro ⟨h1, h2⟩
    obtain ⟨p, hpm, e0, e1⟩ := hV.gap r (by simp) h1
    have hqr' := kLt_iff.1 hqr
    have hpq : nr q 0 = nr r 0 ∧ nr q 1 = nr r 1 - 1 := by
      rcases List.mem_append.1 hpm with hpm | hpm
      · have := kLt_iff.1 (hs.2.2 p hpm q List.mem_cons_self)
        omega
      · rcases List.mem_cons.1 hpm with rfl | hpm
        · exact ⟨e0, e1⟩
        · exfalso
          rcases List.mem_cons.1 hpm with rfl | hpm
          · omega
          · have := kLt_iff.1 ((asc_cons.1 hql.2).1 p hpm)
            omega
    rcases h2 with h2 | h2 | h2
    · cases h2
    · exact h2 hpq.1
    · exact h2 hpq.2

theorem valid_mk {c : List (List Cell)} (h : Vld c) (hp : ∀ r ∈ c, vPropR r = 0) : vCfg c = 0 := by
  cases c with
  | nil => rfl
  | cons r l =>
    have hV := vCfgF_mk l [] r h fun x hx => hp x (List.mem_cons_of_mem _ hx)
    have hl := asc_cons.1 h.asc
    unfold vCfg
    rw [vCfg_step, if_neg (by simpa using hp r List.mem_cons_self), if_neg (by simp), if_neg, hV]
    rintro ⟨h1, _⟩
    obtain ⟨p, hpm, e0, e1⟩ := h.gap r List.mem_cons_self h1
    rcases List.mem_cons.1 hpm with rfl | hpm
    · omega
    · have := kLt_iff.1 (hl.1 p hpm)
      omega

/-- all that the contracts ask of a valid set -/
structure Fit (c : List (List Cell)) : Prop where
  vld : Vld c
  prop : ∀ r ∈ c, vPropR r = 0
  pr : c.all isPR = true
  len : c.length ≤ 9

theorem Fit.short {c : List (List Cell)} (h : Fit c) : shortRows c = true := List.all_eq_true.2 fun r hr => by
  have := okCh_of (prop_nums (h.prop r hr)).2.2.2.2
  unfold shortRow
  simp only [decide_eq_true_eq]
  omega

theorem Fit.ln {c : List (List Cell)} (h : Fit c) : okLn c = true := okLn_mk (by have := h.len; omega)

theorem Fit.rows {c : List (List Cell)} (h : Fit c) : okRows c = true := okRows_mk (by have := h.len; omega) h.short

theorem Fit.srt {c : List (List Cell)} (h : Fit c) : okSrt c = true := okSrt_mk (by have := h.len; omega) h.vld.asc

theorem Fit.cf {c : List (List Cell)} (h : Fit c) : okCf c = true := by
  unfold okCf
  rw [h.ln, h.pr]
  rfl

theorem Fit.cl {c : List (List Cell)} (h : Fit c) : okCl c = true := by
  unfold okCl
  rw [h.cf, Bool.true_and]
  exact List.all_eq_true.2 fun r hr => (prop_nums (h.prop r hr)).2.2.2.2

theorem Fit.valid {c : List (List Cell)} (h : Fit c) : vCfg c = 0 := valid_mk h.vld h.prop

theorem fit_mk {c : List (List Cell)} (h : vCfg c = 0) (hp : c.all isPR = true) : Fit c :=
  ⟨(valid_of h).1, (valid_of h).2, hp, vCfg_nine h⟩

theorem all_sub {c d : List (List Cell)} {p : List Cell → Bool} (h : c.all p = true) (hs : ∀ r ∈ d, r ∈ c) : d.all p = true :=
  List.all_eq_true.2 fun r hr => List.all_eq_true.1 h r (hs r hr)

theorem Fit.sub {c : List (List Cell)} (h : Fit c) (f : Int → Int) : Fit (sub c f) :=
  ⟨h.vld.sub f, fun r hr => h.prop r (mem_sub.1 hr).1, all_sub h.pr fun r hr => (mem_sub.1 hr).1, Nat.le_trans (sub_len _ _) h.len⟩

structure PInv (a i : Nat) (acc : List (List Cell)) : Prop where
  asc : Asc acc
  gap : Gap acc
  low : ∀ r ∈ acc, nr r 0 < 201 + a ∨ (nr r 0 = 201 + a ∧ nr r 1 ≤ i)
  last : 0 < i → ∃ q ∈ acc, nr q 0 = 201 + a ∧ nr q 1 = i
  pr : acc.all isPR = true

theorem gIn_inv (l : List (List Cell)) (a : Nat) : ∀ (d i : Nat) (p : Int) (acc : List (List Cell)), PInv a i acc → PInv a (i + d) (gIn l a d i p acc).1
  | 0, _, _, _, h => h
  | d + 1, i, p, acc, h => by
    have e0 : nr (gProp l a i p) 0 = 201 + a := rfl
    have e1 : nr (gProp l a i p) 1 = i + 1 := rfl
    have := gIn_inv l a d (i + 1) (p + 2) (acc ++ [gProp l a i p]) ⟨?_, ?_, ?_, ?_, ?_⟩
    · rw [show i + (d + 1) = i + 1 + d by omega]
      exact this
    · refine List.pairwise_append.2 ⟨h.asc, by simp, fun x hx y hy => ?_⟩
      rw [List.mem_singleton] at hy
      subst hy
      have := h.low x hx
      rw [kLt_iff]
      omega
    · intro r hr h1
      rcases List.mem_append.1 hr with hr | hr
      · obtain ⟨q, hq, e⟩ := h.gap r hr h1
        exact ⟨q, List.mem_append.2 (.inl hq), e⟩
      · rw [List.mem_singleton] at hr
        subst hr
        obtain ⟨q, hq, f0, f1⟩ := h.last (by omega)
        exact ⟨q, List.mem_append.2 (.inl hq), by omega, by omega⟩
    · intro r hr
      rcases List.mem_append.1 hr with hr | hr
      · have := h.low r hr
        omega
      · rw [List.mem_singleton] at hr
        subst hr
        omega
    · intro _
      exact ⟨_, List.mem_append.2 (.inr (List.mem_singleton.2 rfl)), e0, by omega⟩
    · rw [List.all_append, h.pr, List.all_cons, List.all_nil]
      rfl

theorem gOut_inv (l : List (List Cell)) : ∀ (d a : Nat) (p : Int) (acc : List (List Cell)), PInv a 0 acc → PInv (a + d) 0 (gOut l d a p acc)
  | 0, _, _, _, h => h
  | d + 1, a, p, acc, h => by
    have h1 := gIn_inv l a (gDigit (gAt l a) 4 0).toNat 0 p acc h
    have := gOut_inv l d (a + 1) (gIn l a (gDigit (gAt l a) 4 0).toNat 0 p acc).2 (gIn l a (gDigit (gAt l a) 4 0).toNat 0 p acc).1 ⟨h1.asc, h1.gap, fun r hr => ?_, fun h0 => absurd h0 (by omega), h1.pr⟩
    · rw [show a + (d + 1) = a + 1 + d by omega]
      exact this
    · have := h1.low r hr
      omega

theorem pool_fit (l : List (List Cell)) : Fit (gPool l) := by
  have h := gOut_inv l 3 0 3 [] ⟨by simp [Asc], fun r hr => (by cases hr), fun r hr => (by cases hr), fun h0 => absurd h0 (by omega), rfl⟩
  have ho := gPool_ok l
  exact ⟨⟨h.asc, h.gap, fun r hr => by
    have := prop_nums (r := r) (ho.1 r hr)
    omega⟩, ho.1, h.pr, ho.2⟩

theorem okArg_of {c : List (List Cell)} (h : okArg c = true) : c.all isPR = true ∧ shortRows c = true := by
  unfold okArg at h
  simpa [Bool.and_eq_true] using h

theorem uniK_len : ∀ (b a : List (List Cell)), (uniK a b).length ≤ a.length + b.length
  | [], _ => Nat.le_refl _
  | p :: b, a => by
    have h1 := uniK_len b (insK a p)
    have h2 := insK_len a p
    rw [uniK_cons]
    simp only [List.length_cons]
    omega

theorem uniK_mem : ∀ {b a : List (List Cell)} {x : List Cell}, x ∈ uniK a b → x ∈ a ∨ x ∈ b
  | [], _, _, h => .inl h
  | p :: b, a, x, h => by
    rw [uniK_cons] at h
    rcases uniK_mem h with h | h
    · rcases mem_insK.1 h with h | ⟨rfl, _⟩
      · exact .inl h
      · exact .inr List.mem_cons_self
    · exact .inr (List.mem_cons_of_mem _ h)

theorem short_uni {a b : List (List Cell)} (ha : shortRows a = true) (hb : shortRows b = true) : shortRows (uniK a b) = true :=
  List.all_eq_true.2 fun r hr => by
    rcases uniK_mem hr with h | h
    · exact List.all_eq_true.1 ha r h
    · exact List.all_eq_true.1 hb r h

theorem vVecF_of : ∀ (l : List (List Cell)) (first : Bool) (q : List Cell), vVecF first q l = 0 → AscV l ∧ (first = false → ∀ r ∈ l, nr q 0 < nr r 0)
  | [], _, _, _ => ⟨by simp [AscV], fun _ r hr => (by cases hr)⟩
  | e :: l, first, q, h => by
    rw [vVecF] at h
    split at h
    · simp at h
    · split at h
      · simp at h
      · rename_i h1
        obtain ⟨g1, g2⟩ := vVecF_of l false e h
        refine ⟨List.pairwise_cons.2 ⟨g2 rfl, g1⟩, fun hf r hr => ?_⟩
        have h2 : nr q 0 < nr e 0 := by
          refine Int.lt_of_not_ge fun hh => h1 ⟨hf, hh⟩
        rcases List.mem_cons.1 hr with rfl | hr
        · exact h2
        · have := g2 rfl r hr
          omega

theorem eqCfg_len {c d : List (List Cell)} (h : eqCfg c d = true) : c.length = d.length := by
  unfold eqCfg at h
  simp only [Bool.and_eq_true, decide_eq_true_eq] at h
  exact h.1

theorem insK_len_new : ∀ {l : List (List Cell)} {p : List Cell}, hasK l p = false → (insK l p).length = l.length + 1
  | [], _, _ => rfl
  | q :: l, p, h => by
    rw [hasK_cons, Bool.or_eq_false_iff] at h
    have h1 : ¬ kEq p q = true := by
      have := h.1
      rw [kEq_false] at this
      rw [kEq_iff]
      omega
    rw [insK, if_neg h1]
    split
    · rfl
    · rw [List.length_cons, insK_len_new h.2, List.length_cons]

/-- the part with one more of an author -/
def more (f : Int → Int) (a n : Int) : Int → Int := fun b => if b = a then n else f b

theorem add_sub {P : List (List Cell)} (F : Fit P) {f : Int → Int} {p : List Cell} (hp : p ∈ P) (h : hasK (sub P f) p = false) (hn : nr p 1 = cntV (vecK (sub P f)) (nr p 0) + 1) :
    uniK (sub P f) [p] = sub P (more f (nr p 0) (nr p 1)) := by
  have V := F.vld
  have IA := vecK_is (V.sub f)
  have hone : Asc [p] := by simp [Asc]
  refine asc_ext (asc_uniK (V.sub f).asc _) (V.sub _).asc fun x => ?_
  rw [mem_uniK_asc (V.sub f).asc hone, mem_sub, mem_sub, List.mem_singleton]
  unfold more
  constructor
  · rintro (⟨h1, h2⟩ | ⟨rfl, _⟩)
    · refine ⟨h1, ?_⟩
      split
      · rename_i e
        have := ((IA.has x).1 (hasK_self (mem_sub.2 ⟨h1, h2⟩))).2
        rw [e] at this
        omega
      · exact h2
    · exact ⟨hp, by rw [if_pos rfl]; exact Int.le_refl _⟩
  · rintro ⟨h1, h2⟩
    split at h2
    · rename_i e
      by_cases e1 : nr x 1 = nr p 1
      · have := asc_inj V.asc h1 hp e e1
        subst this
        exact .inr ⟨rfl, h⟩
      · have hx := (V.nums x h1).2.1
        have := (IA.has x).2 ⟨hx, by rw [e]; omega⟩
        obtain ⟨q, hq, f0, f1⟩ := hasK_iff.1 this
        have := asc_inj V.asc (mem_sub.1 hq).1 h1 f0 f1
        subst this
        exact .inl (mem_sub.1 hq)
    · exact .inl ⟨h1, h2⟩

/-- what Add answers for a member of the pool -/
theorem addC_sub {P : List (List Cell)} (F : Fit P) (f : Int → Int) {p : List Cell} (hp : p ∈ P) :
    (addC (sub P f) (nr p 0) (nr p 1) (nl p 2)).2 = 5 ∨ ((addC (sub P f) (nr p 0) (nr p 1) (nl p 2)).2 = 8 ∧ (hasK (sub P f) p = true ∨ nr p 1 ≠ cntV (vecK (sub P f)) (nr p 0) + 1)) ∨
      ((addC (sub P f) (nr p 0) (nr p 1) (nl p 2)) = (sub P (more f (nr p 0) (nr p 1)), 0) ∧ (sub P (more f (nr p 0) (nr p 1))).length = (sub P f).length + 1) := by
  have e : prow (nr p 0) (nr p 1) (nl p 2) = p := isPR_eq (List.all_eq_true.1 F.pr p hp)
  have hv : vProp (nr p 0) (nr p 1) (nl p 2) = 0 := F.prop p hp
  unfold addC
  rw [e, hv, if_neg (by simp)]
  by_cases hh : hasK (sub P f) p = true
  · rw [if_pos hh]
    exact .inl rfl
  · rw [if_neg hh]
    have hh' : hasK (sub P f) p = false := by simpa using hh
    by_cases hn : nr p 1 = cntV (vecK (sub P f)) (nr p 0) + 1
    · rw [if_neg (by simpa using hn)]
      have ha := add_sub F hp hh' hn
      rw [ha]
      refine .inr (.inr ⟨rfl, ?_⟩)
      rw [← ha]
      exact insK_len_new hh'
    · rw [if_pos hn]
      exact .inr (.inl ⟨rfl, .inr hn⟩)

/-- as long as one is missing, one can be added -/
theorem addable {P : List (List Cell)} (F : Fit P) (f : Int → Int) (hl : (sub P f).length < P.length) : ∃ p ∈ P, (addC (sub P f) (nr p 0) (nr p 1) (nl p 2)).2 = 0 := by
  have V := F.vld
  have IA := vecK_is (V.sub f)
  obtain ⟨x, hx, hxf⟩ : ∃ x ∈ P, ¬ nr x 1 ≤ f (nr x 0) := by
    refine Classical.byContradiction fun hh => ?_
    have : sub P f = P := List.filter_eq_self.2 fun r hr => decide_eq_true (Classical.byContradiction fun h => hh ⟨r, hr, h⟩)
    rw [this] at hl
    omega
  have hx0 : hasK (sub P f) x = false := Bool.eq_false_iff.2 fun hk => by
    obtain ⟨q, hq, e0, e1⟩ := hasK_iff.1 hk
    have := asc_inj V.asc (mem_sub.1 hq).1 hx e0 e1
    subst this
    exact hxf (mem_sub.1 hq).2
  have hn := (V.nums x hx).2.1
  have hc0 := cntV_pos IA.ents (nr x 0)
  have hlt : cntV (vecK (sub P f)) (nr x 0) < nr x 1 := Int.lt_of_not_ge fun h => by
    have := (IA.has x).2 ⟨hn, h⟩
    rw [hx0] at this
    cases this
  obtain ⟨p, hp, e0, e1⟩ := gap_down V.gap hx (nr x 1 - (cntV (vecK (sub P f)) (nr x 0) + 1)).toNat (cntV (vecK (sub P f)) (nr x 0) + 1) (by omega) (by omega)
  have hp0 : hasK (sub P f) p = false := Bool.eq_false_iff.2 fun hk => by
    have := ((IA.has p).1 hk).2
    rw [e0] at this
    omega
  refine ⟨p, hp, ?_⟩
  have e : prow (nr p 0) (nr p 1) (nl p 2) = p := isPR_eq (List.all_eq_true.1 F.pr p hp)
  have hv : vProp (nr p 0) (nr p 1) (nl p 2) = 0 := F.prop p hp
  unfold addC
  rw [e, hv, if_neg (by simp), if_neg (by simp [hp0]), if_neg (by rw [e0]; omega)]

theorem gIndex_bound (n k : Int) (hk : 1 ≤ k) : 0 ≤ gIndex n k ∧ gIndex n k < k := by
  unfold gIndex
  rw [if_neg (by omega)]
  exact ⟨Int.emod_nonneg _ (by omega), Int.emod_lt_of_pos _ (by omega)⟩

end Go.Proofs.Ytdgijohgncchiaa
