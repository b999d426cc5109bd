/-
  Valid sets of proposals: ordered, without gaps; the drawn pools are so. And the laws over sets.
-/
import Derived.Test.YtohikghidhdhjaaSetB
import Derived.Test.YtohikghidhdhjaaKeyedV
namespace Go.Proofs.Ytohikghidhdhjaa
open Go.Abs

theorem kLt_cmp {r q : List Cell} : kLt q r = true ↔ ¬ cmpP (nr r 0) (nr r 1) (nr q 0) (nr q 1) ≤ 0 := by
  rw [kLt_iff]
  have := cmpP_cases (nr r 0) (nr r 1) (nr q 0) (nr q 1)
  omega

theorem vCfgF_of : ∀ (l : List (List Cell)) (first : Bool) (q : List Cell), vCfgF first q l = 0 →
    Asc l ∧ (first = false → ∀ r ∈ l, kLt q r = true) ∧ (∀ r ∈ l, vPropR r = 0) ∧ ∀ r ∈ l, 1 < nr r 1 → ∃ p ∈ (if first = true then l else q :: l), nr p 0 = nr r 0 ∧ nr p 1 = nr r 1 - 1
  | [], first, q, _ => ⟨by simp [Asc], fun _ r hr => (by cases hr), fun r hr => (by cases hr), fun r hr => (by cases hr)⟩
  | r :: l, first, q, h => by
    rw [vCfg_step] at h
    by_cases h0 : vPropR r = 0
    · rw [if_neg (by simpa using h0)] at h
      split at h
      · simp at h
      · rename_i h1
        split at h
        · simp at h
        · rename_i h2
          obtain ⟨g1, g2, g3, g4⟩ := vCfgF_of l false r h
          have hq : first = false → kLt q r = true := fun hf => kLt_cmp.2 fun hh => h1 ⟨hf, hh⟩
          refine ⟨asc_cons.2 ⟨g2 rfl, g1⟩, fun hf x hx => ?_, fun x hx => ?_, fun x hx hx1 => ?_⟩
          · rcases List.mem_cons.1 hx with rfl | hx
            · exact hq hf
            · exact kLt_trans (hq hf) (g2 rfl x hx)
          · rcases List.mem_cons.1 hx with rfl | hx
            · exact h0
            · exact g3 x hx
          · rcases List.mem_cons.1 hx with rfl | hx
            · cases first with
              | true => exact absurd ⟨hx1, Or.inl rfl⟩ h2
              | false =>
                refine ⟨q, by simp, ?_⟩
                have e1 : nr q 0 = nr x 0 := Classical.byContradiction fun hh => h2 ⟨hx1, Or.inr (Or.inl hh)⟩
                have e2 : nr q 1 = nr x 1 - 1 := Classical.byContradiction fun hh => h2 ⟨hx1, Or.inr (Or.inr hh)⟩
                exact ⟨e1, e2⟩
            · obtain ⟨p, hp, e⟩ := g4 x hx hx1
              refine ⟨p, ?_, e⟩
              simp only [Bool.false_eq_true, if_false] at hp
              cases first with
              | true => simpa using hp
              | false =>
                simp only [Bool.false_eq_true, if_false]
                exact List.mem_cons_of_mem _ hp
    · rw [if_pos h0] at h
      exact absurd h h0

theorem prop_nums {r : List Cell} (h : vPropR r = 0) : 201 ≤ nr r 0 ∧ nr r 0 < 204 ∧ 1 ≤ nr r 1 ∧ nr r 1 ≤ 3 ∧ okCh (nl r 2) = true := by
  have := vProp_ok h
  refine ⟨this.1, this.2.1, this.2.2.1, this.2.2.2.1, ?_⟩
  unfold okCh
  simp only [Bool.and_eq_true, decide_eq_true_eq]
  omega

theorem valid_of {c : List (List Cell)} (h : vCfg c = 0) : Vld c ∧ ∀ r ∈ c, vPropR r = 0 := by
  obtain ⟨g1, _, g3, g4⟩ := vCfgF_of c true [] h
  refine ⟨⟨g1, fun r hr h1 => ?_, fun r hr => ?_⟩, g3⟩
  · simpa using g4 r hr h1
  · have := prop_nums (g3 r hr)
    omega

theorem vCfgF_mk : ∀ (l pre : List (List Cell)) (q : List Cell), Vld (pre ++ q :: l) → (∀ r ∈ l, vPropR r = 0) → vCfgF false q l = 0
  | [], _, _, _, _ => rfl
  | r :: l, pre, q, hV, hp => by
    have hs := List.pairwise_append.1 hV.asc
    have hql := asc_cons.1 hs.2.1
    have hqr := hql.1 r List.mem_cons_self
    rw [vCfg_step, if_neg (by simpa using hp r List.mem_cons_self), if_neg (fun hh => kLt_cmp.1 hqr hh.2), if_neg, vCfgF_mk l (pre ++ [q]) r (by rw [List.append_assoc]; exact hV) fun x hx => hp x (List.mem_cons_of_mem _ hx)]
    rintro ⟨h1, h2⟩
    obtain ⟨p, hpm, e0, e1⟩ := hV.gap r (by simp) h1
    have hqr' := kLt_iff.1 hqr
    have hpq : nr q 0 = nr r 0 ∧ nr q 1 = nr r 1 - 1 := by
      rcases List.mem_append.1 hpm with hpm | hpm
      · have := kLt_iff.1 (hs.2.2 p hpm q List.mem_cons_self)
        omega
      · rcases List.mem_cons.1 hpm with rfl | hpm
        · exact ⟨e0, e1⟩
        · exfalso
          rcases List.mem_cons.1 hpm with rfl | hpm
          · omega
          · have := kLt_iff.1 ((asc_cons.1 hql.2).1 p hpm)
            omega
    rcases h2 with h2 | h2 | h2
    · cases h2
    · exact h2 hpq.1
    · exact h2 hpq.2

theorem valid_mk {c : List (List Cell)} (h : Vld c) (hp : ∀ r ∈ c, vPropR r = 0) : vCfg c = 0 := by
  cases c with
  | nil => rfl
  | cons r l =>
    have hV := vCfgF_mk l [] r h fun x hx => hp x (List.mem_cons_of_mem _ hx)
    have hl := asc_cons.1 h.asc
    unfold vCfg
    rw [vCfg_step, if_neg (by simpa using hp r List.mem_cons_self), if_neg (by simp), if_neg, hV]
    rintro ⟨h1, _⟩
    obtain ⟨p, hpm, e0, e1⟩ := h.gap r List.mem_cons_self h1
    rcases List.mem_cons.1 hpm with rfl | hpm
    · omega
    · have := kLt_iff.1 (hl.1 p hpm)
      omega

/-- all that the contracts ask of a valid set -/
structure Fit (c : List (List Cell)) : Prop where
  vld : Vld c
  prop : ∀ r ∈ c, vPropR r = 0
  pr : c.all isPR = true
  len : c.length ≤ 9

theorem Fit.short {c : List (List Cell)} (h : Fit c) : shortRows c = true := List.all_eq_true.2 fun r hr => by
  have := okCh_of (prop_nums (h.prop r hr)).2.2.2.2
  unfold shortRow
  simp only [decide_eq_true_eq]
  omega
theorem Fit.ln {c : List (List Cell)} (h : Fit c) : okLn c = true := okLn_mk (by have := h.len; omega)
theorem Fit.rows {c : List (List Cell)} (h : Fit c) : okRows c = true := okRows_mk (by have := h.len; omega) h.short
theorem Fit.srt {c : List (List Cell)} (h : Fit c) : okSrt c = true := okSrt_mk (by have := h.len; omega) h.vld.asc
theorem Fit.cf {c : List (List Cell)} (h : Fit c) : okCf c = true := by
  unfold okCf
  rw [h.ln, h.pr]
  rfl
theorem Fit.cl {c : List (List Cell)} (h : Fit c) : okCl c = true := by
  unfold okCl
  rw [h.cf, Bool.true_and]
  exact List.all_eq_true.2 fun r hr => (prop_nums (h.prop r hr)).2.2.2.2
theorem Fit.valid {c : List (List Cell)} (h : Fit c) : vCfg c = 0 := valid_mk h.vld h.prop

theorem fit_mk {c : List (List Cell)} (h : vCfg c = 0) (hp : c.all isPR = true) : Fit c :=
  ⟨(valid_of h).1, (valid_of h).2, hp, vCfg_nine h⟩

theorem all_sub {c d : List (List Cell)} {p : List Cell → Bool} (h : c.all p = true) (hs : ∀ r ∈ d, r ∈ c) : d.all p = true :=
  List.all_eq_true.2 fun r hr => List.all_eq_true.1 h r (hs r hr)

theorem Fit.sub {c : List (List Cell)} (h : Fit c) (f : Int → Int) : Fit (sub c f) :=
  ⟨h.vld.sub f, fun r hr => h.prop r (mem_sub.1 hr).1, all_sub h.pr fun r hr => (mem_sub.1 hr).1, Nat.le_trans (sub_len _ _) h.len⟩

/- THE DRAWN POOL -/

structure PInv (a i : Nat) (acc : List (List Cell)) : Prop where
  asc : Asc acc
  gap : Gap acc
  low : ∀ r ∈ acc, nr r 0 < 201 + a ∨ (nr r 0 = 201 + a ∧ nr r 1 ≤ i)
  last : 0 < i → ∃ q ∈ acc, nr q 0 = 201 + a ∧ nr q 1 = i
  pr : acc.all isPR = true

theorem gIn_inv (l : List (List Cell)) (a : Nat) : ∀ (d i : Nat) (p : Int) (acc : List (List Cell)), PInv a i acc → PInv a (i + d) (gIn l a d i p acc).1
  | 0, _, _, _, h => h
  | d + 1, i, p, acc, h => by
    have e0 : nr (gProp l a i p) 0 = 201 + a := rfl
    have e1 : nr (gProp l a i p) 1 = i + 1 := rfl
    have := gIn_inv l a d (i + 1) (p + 2) (acc ++ [gProp l a i p]) ⟨?_, ?_, ?_, ?_, ?_⟩
    · rw [show i + (d + 1) = i + 1 + d by omega]
      exact this
    · refine List.pairwise_append.2 ⟨h.asc, by simp, fun x hx y hy => ?_⟩
      rw [List.mem_singleton] at hy
      subst hy
      have := h.low x hx
      rw [kLt_iff]
      omega
    · intro r hr h1
      rcases List.mem_append.1 hr with hr | hr
      · obtain ⟨q, hq, e⟩ := h.gap r hr h1
        exact ⟨q, List.mem_append.2 (.inl hq), e⟩
      · rw [List.mem_singleton] at hr
        subst hr
        obtain ⟨q, hq, f0, f1⟩ := h.last (by omega)
        exact ⟨q, List.mem_append.2 (.inl hq), by omega, by omega⟩
    · intro r hr
      rcases List.mem_append.1 hr with hr | hr
      · have := h.low r hr
        omega
      · rw [List.mem_singleton] at hr
        subst hr
        omega
    · intro _
      exact ⟨_, List.mem_append.2 (.inr (List.mem_singleton.2 rfl)), e0, by omega⟩
    · rw [List.all_append, h.pr, List.all_cons, List.all_nil]
      rfl

theorem gOut_inv (l : List (List Cell)) : ∀ (d a : Nat) (p : Int) (acc : List (List Cell)), PInv a 0 acc → PInv (a + d) 0 (gOut l d a p acc)
  | 0, _, _, _, h => h
  | d + 1, a, p, acc, h => by
    have h1 := gIn_inv l a (gDigit (gAt l a) 4 0).toNat 0 p acc h
    have := gOut_inv l d (a + 1) (gIn l a (gDigit (gAt l a) 4 0).toNat 0 p acc).2 (gIn l a (gDigit (gAt l a) 4 0).toNat 0 p acc).1 ⟨h1.asc, h1.gap, fun r hr => ?_, fun h0 => absurd h0 (by omega), h1.pr⟩
    · rw [show a + (d + 1) = a + 1 + d by omega]
      exact this
    · have := h1.low r hr
      omega

theorem pool_fit (l : List (List Cell)) : Fit (gPool l) := by
  have h := gOut_inv l 3 0 3 [] ⟨by simp [Asc], fun r hr => (by cases hr), fun r hr => (by cases hr), fun h0 => absurd h0 (by omega), rfl⟩
  have ho := gPool_ok l
  exact ⟨⟨h.asc, h.gap, fun r hr => by
    have := prop_nums (r := r) (ho.1 r hr)
    omega⟩, ho.1, h.pr, ho.2⟩

/- THE LAWS -/

theorem okArg_of {c : List (List Cell)} (h : okArg c = true) : c.all isPR = true ∧ shortRows c = true := by
  unfold okArg at h
  simpa [Bool.and_eq_true] using h

theorem uniK_len : ∀ (b a : List (List Cell)), (uniK a b).length ≤ a.length + b.length
  | [], _ => Nat.le_refl _
  | p :: b, a => by
    have h1 := uniK_len b (insK a p)
    have h2 := insK_len a p
    rw [uniK_cons]
    simp only [List.length_cons]
    omega

theorem uniK_mem : ∀ {b a : List (List Cell)} {x : List Cell}, x ∈ uniK a b → x ∈ a ∨ x ∈ b
  | [], _, _, h => .inl h
  | p :: b, a, x, h => by
    rw [uniK_cons] at h
    rcases uniK_mem h with h | h
    · rcases mem_insK.1 h with h | ⟨rfl, _⟩
      · exact .inl h
      · exact .inr List.mem_cons_self
    · exact .inr (List.mem_cons_of_mem _ h)

theorem short_uni {a b : List (List Cell)} (ha : shortRows a = true) (hb : shortRows b = true) : shortRows (uniK a b) = true :=
  List.all_eq_true.2 fun r hr => by
    rcases uniK_mem hr with h | h
    · exact List.all_eq_true.1 ha r h
    · exact List.all_eq_true.1 hb r h

theorem law4 (c d : List (List Cell)) (h : (okArg c && okArg d) = true) : runF E (callOf L29) 1 4 [.one (.sl false 45 c), .one (.sl false 45 d)] [] = some ([.one (.bool true)], []) := by
  simp only [Bool.and_eq_true] at h
  obtain ⟨pc, sc⟩ := okArg_of h.1
  obtain ⟨pd, sd⟩ := okArg_of h.2
  rw [e4]
  refine cs (fun _ => rfl) (fun g1 => cs (fun _ => rfl) (fun g2 => ?_))
  have g1' := of_decide_eq_false g1
  have g2' := of_decide_eq_false g2
  have rc := okRows_mk (c := c) (by omega) sc
  have rd := okRows_mk (c := d) (by omega) sd
  have hcs : okCs [[Cell.slice 45 c], [Cell.slice 45 d]] = true := by
    unfold okCs
    show (_ && (okRows c && (okRows d && true))) = true
    rw [rc, rd]
    rfl
  refine ct hcs (cs (fun _ => rfl) (fun g3 => ?_))
  have hval : validCs [[Cell.slice 45 c], [Cell.slice 45 d]] = true := by simpa using g3
  have hv : vCfg c = 0 ∧ vCfg d = 0 := by
    unfold validCs validF validF at hval
    simp only [Bool.and_eq_true, decide_eq_true_eq] at hval
    exact ⟨hval.1, hval.2.2.1⟩
  have fc := fit_mk hv.1 pc
  have fd := fit_mk hv.2 pd
  have hvec := vecR_eq fc.vld (by have := fc.len; omega)
  have hk := vecK_cnt c
  have hm := mrgK_uni fc.vld.asc fd.vld.asc
  have hul := uniK_len d c
  have r1 : okRows (uniK c d) = true := okRows_mk (by have := fc.len; have := fd.len; omega) (short_uni sc sd)
  have r2 : okRows (meetK c d) = true := okRows_mk (by have := fc.len; have : (meetK c d).length ≤ c.length := List.length_filter_le _ _; omega) (all_sub sc fun r hr => (List.mem_filter.1 hr).1)
  have l1 : okLn (vecK c) = true := okLn_mk (by have := fc.len; omega)
  rw [hvec, hm, fc.ln, fd.ln, fc.srt, fd.srt, fc.cl, fd.cl, fc.cf, fd.cf, l1, eqVec_refl, r1, r2, eqCfg_refl, eqCfg_refl]
  simp

theorem law7 (c : List (List Cell)) (a n : Int) (p : List (List Cell)) (h : okArg c = true) : runF E (callOf L6) 1 7 [.one (.sl false 45 c), .agg [.int .i64 a, .int .i64 n, .sl false 63 p]] [] = some ([.one (.bool true)], []) := by
  obtain ⟨pc, sc⟩ := okArg_of h
  rw [e7]
  refine cs (fun _ => rfl) (fun g1 => cs (fun _ => rfl) (fun g2 => ?_))
  have g1' := of_decide_eq_false g1
  have g2' := of_decide_eq_false g2
  refine ct (okRows_mk (by omega) sc) (cs (fun _ => rfl) (fun g3 => ?_))
  have hv : vCfg c = 0 := by simpa using g3
  have fc := fit_mk hv pc
  have ha : okAdd c p = true := by
    unfold okAdd
    rw [fc.cl, fc.srt, decide_eq_true (by omega : p.length < 9223372036854775808)]
    rfl
  have hone : Asc [prow a n p] := by simp [Asc]
  have he : addC c a n p = addR c a n p := by
    unfold addC addR
    rw [vecR_eq fc.vld (by have := fc.len; omega), mrgK_uni fc.vld.asc hone]
  have hs1 : shortRows [prow a n p] = true := by
    have : nl (prow a n p) 2 = p := rfl
    simp only [shortRows, List.all_cons, List.all_nil, Bool.and_true, shortRow, this, decide_eq_true_eq]
    omega
  have hr : okRows (addC c a n p).1 = true := by
    unfold addC
    split
    · rfl
    · split
      · rfl
      · split
        · rfl
        · have := uniK_len [prow a n p] c
          exact okRows_mk (c := uniK c [prow a n p]) (by have := fc.len; have e : [prow a n p].length = 1 := rfl; omega) (short_uni sc hs1)
  refine ct (fits_of (by simp; omega)) (ct ha (ct ha (ct (by rw [he]; exact beq_iff_eq.2 rfl) (ct hr (ct (by rw [he]; exact eqCfg_refl _) (ct fc.rows (ct (by rw [List.nil_append]; exact eqCfg_refl _) rfl)))))))

theorem vVecF_of : ∀ (l : List (List Cell)) (first : Bool) (q : List Cell), vVecF first q l = 0 → AscV l ∧ (first = false → ∀ r ∈ l, nr q 0 < nr r 0)
  | [], _, _, _ => ⟨by simp [AscV], fun _ r hr => (by cases hr)⟩
  | e :: l, first, q, h => by
    rw [vVecF] at h
    split at h
    · simp at h
    · split at h
      · simp at h
      · rename_i h1
        obtain ⟨g1, g2⟩ := vVecF_of l false e h
        refine ⟨List.pairwise_cons.2 ⟨g2 rfl, g1⟩, fun hf r hr => ?_⟩
        have h2 : nr q 0 < nr e 0 := by
          refine Int.lt_of_not_ge fun hh => h1 ⟨hf, hh⟩
        rcases List.mem_cons.1 hr with rfl | hr
        · exact h2
        · have := g2 rfl r hr
          omega

theorem law9 (c v : List (List Cell)) (h : (okArg c && okEn v) = true) : runF E (callOf L8) 1 9 [.one (.sl false 45 c), .one (.sl false 67 v)] [] = some ([.one (.bool true)], []) := by
  simp only [Bool.and_eq_true] at h
  obtain ⟨pc, sc⟩ := okArg_of h.1
  rw [e9]
  refine cs (fun _ => rfl) (fun g1 => cs (fun _ => rfl) (fun g2 => ?_))
  have g1' := of_decide_eq_false g1
  have g2' := of_decide_eq_false g2
  refine ct (okRows_mk (by omega) sc) (cs (fun _ => rfl) (fun g3 => ?_))
  have hv : vCfg c = 0 := by simpa using g3
  have fc := fit_mk hv pc
  have hl : okLn v = true := okLn_mk (by omega)
  refine ct hl (cs (fun _ => rfl) (fun g4 => ?_))
  have hvv : vVec v = 0 := by simpa using g4
  have hvec : okVec v = true := okVec_mk (by omega) (vVecF_of v true [] hvv).1
  have fr : Fit (restr c v) := fc.sub _
  have hc : contK c (restr c v) = true := List.all_eq_true.2 fun r hr => hasK_self (mem_sub.1 hr).1
  rw [fc.cl, fc.srt, fc.cf, hvec, hl, fr.rows, fr.ln, eqCfg_refl, fr.valid, hc]
  rfl

theorem eqCfg_len {c d : List (List Cell)} (h : eqCfg c d = true) : c.length = d.length := by
  unfold eqCfg at h
  simp only [Bool.and_eq_true, decide_eq_true_eq] at h
  exact h.1

theorem law5 (l : List (List Cell)) (x y z : Int) (hl : l.length < 4611686018427387904) : runF E (callOf L4) 1 5 [.one (.sl false 3 l), .one (.int .i64 x), .one (.int .i64 y), .one (.int .i64 z)] [] = some ([.one (.bool true)], []) := by
  have F := pool_fit l
  have A : ∀ n, gPart (gPool l) n = sub (gPool l) (cntV (partV n)) := fun n => rfl
  rw [e5]
  simp only [A]
  generalize gPool l = P at *
  generalize cntV (partV x) = f
  generalize cntV (partV y) = g
  generalize cntV (partV z) = h
  have V := F.vld
  have hCl : ∀ f, okCl (sub P f) = true := fun f => (F.sub f).cl
  have hSrt : ∀ f, okSrt (sub P f) = true := fun f => (F.sub f).srt
  have hRows : ∀ f, okRows (sub P f) = true := fun f => (F.sub f).rows
  have hLn : ∀ f, okLn (sub P f) = true := fun f => (F.sub f).ln
  have hV : ∀ f, vCfg (sub P f) = 0 := fun f => (F.sub f).valid
  have hE : ∀ f g, (∀ a, f a = g a) → eqCfg (sub P f) (sub P g) = true := fun f g hfg => by
    have : f = g := funext hfg
    subst this
    exact eqCfg_refl _
  have U := uni_sub V
  have M := meet_sub V
  have C := cont_sub V
  simp only [U, M, hCl, hSrt, hRows, hLn, hV, F.cf, Bool.and_self, cond_true]
  have c1 := hE (fun a => max (f a) (g a)) (fun a => max (g a) (f a)) fun a => Int.max_comm _ _
  have c2 := hE (fun a => max (max (f a) (g a)) (h a)) (fun a => max (f a) (max (g a) (h a))) fun a => by omega
  have c3 := hE (fun a => max (f a) (f a)) f fun a => by omega
  have c4 : contK (sub P fun a => max (f a) (g a)) (sub P f) = true := (C _ _).2 fun r _ hr => by
    show _ ≤ max _ _
    omega
  have c5 : contK (sub P fun a => max (f a) (g a)) (sub P g) = true := (C _ _).2 fun r _ hr => by
    show _ ≤ max _ _
    omega
  have c6 : ((contK (sub P f) (sub P g)) == (eqCfg (sub P fun a => max (f a) (g a)) (sub P f))) = true := by
    rw [beq_iff_eq, Bool.eq_iff_iff, C]
    constructor
    · intro hfg
      have : (sub P fun a => max (f a) (g a)) = sub P f := sub_congr fun r hr => by
        have := hfg r hr
        show nr r 1 ≤ max _ _ ↔ _
        omega
      rw [this]
      exact eqCfg_refl _
    · intro he r hr hg
      exact sub_len_eq (f := f) (g := fun a => max (f a) (g a)) (fun r _ hr => by show _ ≤ max _ _; omega) (eqCfg_len he) r hr (by show _ ≤ max _ _; omega)
  have c7 := hE (fun a => min (f a) (max (f a) (g a))) f fun a => by omega
  have c8 := hE (fun a => min (h a) (max (f a) (g a))) (fun a => max (min (h a) (f a)) (min (h a) (g a))) fun a => by omega
  have c9 : contK (sub P h) (sub P f) = true → contK (sub P h) (sub P g) = true → contK (sub P h) (sub P fun a => max (f a) (g a)) = true := fun h1 h2 => by
    rw [C] at h1 h2 ⊢
    intro r hr hm
    have := h1 r hr
    have := h2 r hr
    have hm : nr r 1 ≤ max (f (nr r 0)) (g (nr r 0)) := hm
    omega
  refine ct (decide_eq_true hl) ?_
  simp only [c1, c2, c3, c4, c5, c6, c7, c8, Bool.not_true, cond_false, cond_true, bne_self_eq_false]
  cases k1 : contK (sub P h) (sub P f) with
  | false => rfl
  | true =>
    cases k2 : contK (sub P h) (sub P g) with
    | false => rfl
    | true =>
      rw [c9 k1 k2]
      rfl

theorem law6 (l : List (List Cell)) (x y : Int) (hl : l.length < 4611686018427387904) : runF E (callOf L5) 1 6 [.one (.sl false 3 l), .one (.int .i64 x), .one (.int .i64 y)] [] = some ([.one (.bool true)], []) := by
  have F := pool_fit l
  have A : ∀ n, gPart (gPool l) n = sub (gPool l) (cntV (partV n)) := fun n => rfl
  rw [e6]
  simp only [A]
  generalize gPool l = P at *
  generalize cntV (partV x) = f
  generalize cntV (partV y) = g
  have V := F.vld
  have U := uni_sub V f g
  have M := meet_sub V f g
  have FA := F.sub f
  have FB := F.sub g
  have IA := vecK_is FA.vld
  have IB := vecK_is FB.vld
  have FU := F.sub fun a => max (f a) (g a)
  have FM := F.sub fun a => min (f a) (g a)
  have IU := vecK_is FU.vld
  have IM := vecK_is FM.vld
  have hLv : ∀ c, Fit c → okLn (vecK c) = true := fun c hc => okLn_mk (by have := vecK_cnt c; have := hc.len; omega)
  have hasA : ∀ (f : Int → Int) (r : List Cell), hasK (sub P f) r = true ↔ (∃ q ∈ P, nr q 0 = nr r 0 ∧ nr q 1 = nr r 1) ∧ nr r 1 ≤ f (nr r 0) := fun f r => by
    rw [hasK_iff]
    constructor
    · rintro ⟨q, hq, e0, e1⟩
      obtain ⟨h1, h2⟩ := mem_sub.1 hq
      exact ⟨⟨q, h1, e0, e1⟩, by rw [← e0, ← e1]; exact h2⟩
    · rintro ⟨⟨q, hq, e0, e1⟩, h2⟩
      exact ⟨q, mem_sub.2 ⟨hq, by rw [e0, e1]; exact h2⟩, e0, e1⟩
  have cle := fun (f g : Int → Int) => vec_has (vecK_is (V.sub f)) (vecK_is (V.sub g))
  -- union
  have cU : ∀ a, cntV (vecK (sub P fun a => max (f a) (g a))) a = max (cntV (vecK (sub P f)) a) (cntV (vecK (sub P g)) a) := fun a => by
    have h1 := (cle f (fun a => max (f a) (g a))).1 (fun r hr => by rw [hasA] at hr ⊢; exact ⟨hr.1, by show _ ≤ max _ _; omega⟩) a
    have h2 := (cle g (fun a => max (f a) (g a))).1 (fun r hr => by rw [hasA] at hr ⊢; exact ⟨hr.1, by show _ ≤ max _ _; omega⟩) a
    by_cases h0 : cntV (vecK (sub P fun a => max (f a) (g a))) a = 0
    · have := cntV_pos IA.ents a
      have := cntV_pos IB.ents a
      omega
    · have hp := cntV_pos IU.ents a
      have h3 := (IU.has (ent a (cntV (vecK (sub P fun a => max (f a) (g a))) a))).2 (show 1 ≤ cntV (vecK (sub P fun a => max (f a) (g a))) a ∧ cntV (vecK (sub P fun a => max (f a) (g a))) a ≤ cntV (vecK (sub P fun a => max (f a) (g a))) a by omega)
      rw [hasA] at h3
      obtain ⟨h4, h5⟩ := h3
      have h5 : cntV (vecK (sub P fun a => max (f a) (g a))) a ≤ max (f a) (g a) := h5
      by_cases h6 : cntV (vecK (sub P fun a => max (f a) (g a))) a ≤ f a
      · have := ((IA.has _).1 ((hasA f _).2 ⟨h4, h6⟩)).2
        have : cntV (vecK (sub P fun a => max (f a) (g a))) a ≤ cntV (vecK (sub P f)) a := this
        omega
      · have := ((IB.has _).1 ((hasA g _).2 ⟨h4, show cntV (vecK (sub P fun a => max (f a) (g a))) a ≤ g a by omega⟩)).2
        have : cntV (vecK (sub P fun a => max (f a) (g a))) a ≤ cntV (vecK (sub P g)) a := this
        omega
  -- intersection
  have cM : ∀ a, cntV (vecK (sub P fun a => min (f a) (g a))) a = min (cntV (vecK (sub P f)) a) (cntV (vecK (sub P g)) a) := fun a => by
    have h1 := (cle (fun a => min (f a) (g a)) f).1 (fun r hr => by rw [hasA] at hr ⊢; refine ⟨hr.1, ?_⟩; have h : nr r 1 ≤ min (f (nr r 0)) (g (nr r 0)) := hr.2; omega) a
    have h2 := (cle (fun a => min (f a) (g a)) g).1 (fun r hr => by rw [hasA] at hr ⊢; refine ⟨hr.1, ?_⟩; have h : nr r 1 ≤ min (f (nr r 0)) (g (nr r 0)) := hr.2; omega) a
    by_cases h0 : min (cntV (vecK (sub P f)) a) (cntV (vecK (sub P g)) a) = 0
    · have := cntV_pos IM.ents a
      omega
    · have hp := cntV_pos IA.ents a
      have hq := cntV_pos IB.ents a
      have k1 := (IA.has (ent a (min (cntV (vecK (sub P f)) a) (cntV (vecK (sub P g)) a)))).2 (show 1 ≤ min _ _ ∧ min (cntV (vecK (sub P f)) a) (cntV (vecK (sub P g)) a) ≤ cntV (vecK (sub P f)) a by omega)
      have k2 := (IB.has (ent a (min (cntV (vecK (sub P f)) a) (cntV (vecK (sub P g)) a)))).2 (show 1 ≤ min _ _ ∧ min (cntV (vecK (sub P f)) a) (cntV (vecK (sub P g)) a) ≤ cntV (vecK (sub P g)) a by omega)
      rw [hasA] at k1 k2
      have k3 := ((IM.has _).1 ((hasA (fun a => min (f a) (g a)) _).2 ⟨k1.1, by
        have h1 := k1.2
        have h2 := k2.2
        rw [ent0, ent1] at h1 h2 ⊢
        omega⟩)).2
      rw [ent0, ent1] at k3
      omega
  obtain ⟨j1, j2, j3⟩ := joinF_is IA.asc IA.ents IB.asc IB.ents
  obtain ⟨m1, m2, m3, _⟩ := meetV_is IB.ents IA.asc IA.ents
  have eU : vecK (sub P fun a => max (f a) (g a)) = joinV (vecK (sub P f)) (vecK (sub P g)) := vec_ext IU.asc j1 IU.ents j2 fun a => by rw [cU]; exact (j3 a).symm
  have eM : vecK (sub P fun a => min (f a) (g a)) = meetV (vecK (sub P f)) (vecK (sub P g)) := vec_ext IM.asc m1 IM.ents m2 fun a => by rw [cM]; exact (m3 a).symm
  have hJ : okJn (vecK (sub P f)) (vecK (sub P g)) = true := by
    unfold okJn
    have h1 := vecK_cnt (sub P f)
    have h2 := vecK_cnt (sub P g)
    have := FA.len
    have := FB.len
    rw [cnt_en h1.1, decide_eq_true (by omega)]
    rfl
  have hC : ((contK (sub P f) (sub P g)) == (leV (vecK (sub P g)) (vecK (sub P f)))) = true := by
    rw [beq_iff_eq, Bool.eq_iff_iff, leV_iff IB.asc IB.ents IA.ents, ← cle g f]
    unfold contK
    rw [List.all_eq_true]
    constructor
    · intro h r hr
      obtain ⟨q, hq, e0, e1⟩ := hasK_iff.1 hr
      obtain ⟨p, hp, f0, f1⟩ := hasK_iff.1 (h q hq)
      exact hasK_iff.2 ⟨p, hp, by omega, by omega⟩
    · intro h r hr
      exact h r (hasK_self hr)
  have hR : restr P (vecK (sub P f)) = sub P f := sub_congr fun r hr => by
    have hn := (V.nums r hr).2.1
    have h1 := IA.has r
    rw [hasA] at h1
    constructor
    · intro h2
      exact (h1.2 ⟨hn, h2⟩).2
    · intro h2
      exact (h1.1 ⟨⟨r, hr, rfl, rfl⟩, h2⟩).2
  have hvA : okVec (vecK (sub P f)) = true := okVec_mk (okLn_of (hLv _ FA)) IA.asc
  rw [U, M, hR, ← eU, ← eM, hC, hJ, F.cf, F.cl, FA.ln, FB.ln, FA.cl, FB.cl, FU.ln, FM.ln, FA.srt, FB.srt, FA.rows, hLv _ FA, hLv _ FB, hLv _ FU, hLv _ FM, hvA, eqVec_refl, eqVec_refl, eqCfg_refl, decide_eq_true hl]
  rfl

/- GROWTH -/

theorem insK_len_new : ∀ {l : List (List Cell)} {p : List Cell}, hasK l p = false → (insK l p).length = l.length + 1
  | [], _, _ => rfl
  | q :: l, p, h => by
    rw [hasK_cons, Bool.or_eq_false_iff] at h
    have h1 : ¬ kEq p q = true := by
      have := h.1
      rw [kEq_false] at this
      rw [kEq_iff]
      omega
    rw [insK, if_neg h1]
    split
    · rfl
    · rw [List.length_cons, insK_len_new h.2, List.length_cons]

/-- the part with one more of an author -/
def more (f : Int → Int) (a n : Int) : Int → Int := fun b => if b = a then n else f b

theorem add_sub {P : List (List Cell)} (F : Fit P) {f : Int → Int} {p : List Cell} (hp : p ∈ P) (h : hasK (sub P f) p = false) (hn : nr p 1 = cntV (vecK (sub P f)) (nr p 0) + 1) :
    uniK (sub P f) [p] = sub P (more f (nr p 0) (nr p 1)) := by
  have V := F.vld
  have IA := vecK_is (V.sub f)
  have hone : Asc [p] := by simp [Asc]
  refine asc_ext (asc_uniK (V.sub f).asc _) (V.sub _).asc fun x => ?_
  rw [mem_uniK_asc (V.sub f).asc hone, mem_sub, mem_sub, List.mem_singleton]
  unfold more
  constructor
  · rintro (⟨h1, h2⟩ | ⟨rfl, _⟩)
    · refine ⟨h1, ?_⟩
      split
      · rename_i e
        have := ((IA.has x).1 (hasK_self (mem_sub.2 ⟨h1, h2⟩))).2
        rw [e] at this
        omega
      · exact h2
    · exact ⟨hp, by rw [if_pos rfl]; exact Int.le_refl _⟩
  · rintro ⟨h1, h2⟩
    split at h2
    · rename_i e
      by_cases e1 : nr x 1 = nr p 1
      · have := asc_inj V.asc h1 hp e e1
        subst this
        exact .inr ⟨rfl, h⟩
      · have hx := (V.nums x h1).2.1
        have := (IA.has x).2 ⟨hx, by rw [e]; omega⟩
        obtain ⟨q, hq, f0, f1⟩ := hasK_iff.1 this
        have := asc_inj V.asc (mem_sub.1 hq).1 h1 f0 f1
        subst this
        exact .inl (mem_sub.1 hq)
    · exact .inl ⟨h1, h2⟩

/-- what Add answers for a member of the pool -/
theorem addC_sub {P : List (List Cell)} (F : Fit P) (f : Int → Int) {p : List Cell} (hp : p ∈ P) :
    (addC (sub P f) (nr p 0) (nr p 1) (nl p 2)).2 = 5 ∨ ((addC (sub P f) (nr p 0) (nr p 1) (nl p 2)).2 = 8 ∧ (hasK (sub P f) p = true ∨ nr p 1 ≠ cntV (vecK (sub P f)) (nr p 0) + 1)) ∨
      ((addC (sub P f) (nr p 0) (nr p 1) (nl p 2)) = (sub P (more f (nr p 0) (nr p 1)), 0) ∧ (sub P (more f (nr p 0) (nr p 1))).length = (sub P f).length + 1) := by
  have e : prow (nr p 0) (nr p 1) (nl p 2) = p := isPR_eq (List.all_eq_true.1 F.pr p hp)
  have hv : vProp (nr p 0) (nr p 1) (nl p 2) = 0 := F.prop p hp
  unfold addC
  rw [e, hv, if_neg (by simp)]
  by_cases hh : hasK (sub P f) p = true
  · rw [if_pos hh]
    exact .inl rfl
  · rw [if_neg hh]
    have hh' : hasK (sub P f) p = false := by simpa using hh
    by_cases hn : nr p 1 = cntV (vecK (sub P f)) (nr p 0) + 1
    · rw [if_neg (by simpa using hn)]
      have ha := add_sub F hp hh' hn
      rw [ha]
      refine .inr (.inr ⟨rfl, ?_⟩)
      rw [← ha]
      exact insK_len_new hh'
    · rw [if_pos hn]
      exact .inr (.inl ⟨rfl, .inr hn⟩)

/-- as long as one is missing, one can be added -/
theorem addable {P : List (List Cell)} (F : Fit P) (f : Int → Int) (hl : (sub P f).length < P.length) : ∃ p ∈ P, (addC (sub P f) (nr p 0) (nr p 1) (nl p 2)).2 = 0 := by
  have V := F.vld
  have IA := vecK_is (V.sub f)
  obtain ⟨x, hx, hxf⟩ : ∃ x ∈ P, ¬ nr x 1 ≤ f (nr x 0) := by
    refine Classical.byContradiction fun hh => ?_
    have : sub P f = P := List.filter_eq_self.2 fun r hr => decide_eq_true (Classical.byContradiction fun h => hh ⟨r, hr, h⟩)
    rw [this] at hl
    omega
  have hx0 : hasK (sub P f) x = false := Bool.eq_false_iff.2 fun hk => by
    obtain ⟨q, hq, e0, e1⟩ := hasK_iff.1 hk
    have := asc_inj V.asc (mem_sub.1 hq).1 hx e0 e1
    subst this
    exact hxf (mem_sub.1 hq).2
  have hn := (V.nums x hx).2.1
  have hc0 := cntV_pos IA.ents (nr x 0)
  have hlt : cntV (vecK (sub P f)) (nr x 0) < nr x 1 := Int.lt_of_not_ge fun h => by
    have := (IA.has x).2 ⟨hn, h⟩
    rw [hx0] at this
    cases this
  obtain ⟨p, hp, e0, e1⟩ := gap_down V.gap hx (nr x 1 - (cntV (vecK (sub P f)) (nr x 0) + 1)).toNat (cntV (vecK (sub P f)) (nr x 0) + 1) (by omega) (by omega)
  have hp0 : hasK (sub P f) p = false := Bool.eq_false_iff.2 fun hk => by
    have := ((IA.has p).1 hk).2
    rw [e0] at this
    omega
  refine ⟨p, hp, ?_⟩
  have e : prow (nr p 0) (nr p 1) (nl p 2) = p := isPR_eq (List.all_eq_true.1 F.pr p hp)
  have hv : vProp (nr p 0) (nr p 1) (nl p 2) = 0 := F.prop p hp
  unfold addC
  rw [e, hv, if_neg (by simp), if_neg (by simp [hp0]), if_neg (by rw [e0]; omega)]

theorem gIndex_bound (n k : Int) (hk : 1 ≤ k) : 0 ≤ gIndex n k ∧ gIndex n k < k := by
  unfold gIndex
  rw [if_neg (by omega)]
  exact ⟨Int.emod_nonneg _ (by omega), Int.emod_lt_of_pos _ (by omega)⟩

theorem in8 (o P : List (List Cell)) (F : Fit P) (f : Int → Int) (i s : Int) (hs0 : 0 ≤ s) (hs : s < P.length) (R : List AV × List Block)
    (hR : ∀ g, (sub P g).length = (sub P f).length + 1 → ∃ m, goF E (callOf L7) F8 0 m P8_0 (M8_0 o P (sub P g) (IntKind.wrap .i64 (i + 1))) = some R) :
    ∀ (d k : Nat), k + d = P.length → (∃ j : Nat, k ≤ j ∧ j < P.length ∧ (addC (sub P f) (nr (Abs.rowAt P ((s + j) % P.length).toNat) 0) (nr (Abs.rowAt P ((s + j) % P.length).toNat) 1) (nl (Abs.rowAt P ((s + j) % P.length).toNat) 2)).2 = 0) →
    ∃ m, goF E (callOf L7) F8 0 m P8_1 (M8_1 o P (sub P f) i s false k) = some R := by
  have hlen := F.len
  have hfin : ∀ g, (sub P g).length = (sub P f).length + 1 → ∀ k : Nat, k ≤ 10 → ∃ m, goF E (callOf L7) F8 0 m P8_1 (M8_1 o P (sub P g) i s true k) = some R := fun g hg k hk => by
    obtain ⟨m, hm⟩ := hR g hg
    refine ⟨m + 1, ?_⟩
    rw [e8_1]
    by_cases hkl : (k : Int) < (P.length : Int)
    · exact ct (decide_eq_true hkl) (cf rfl hm)
    · exact cf (decide_eq_false hkl) hm
  intro d
  induction d with
  | zero =>
    rintro k hk ⟨j, h1, h2, _⟩
    omega
  | succ d ih =>
    rintro k hk ⟨j, h1, h2, h3⟩
    have hkl : k < P.length := by omega
    have hidx : gIndex (IntKind.wrap .i64 (s + (k : Int))) (P.length : Int) = (s + k) % P.length := by
      rw [wrap64 (by omega) (by omega)]
      unfold gIndex
      rw [if_neg (by omega)]
    have hm0 := Int.emod_nonneg (s + (k : Int)) (show (P.length : Int) ≠ 0 by omega)
    have hm1 := Int.emod_lt_of_pos (s + (k : Int)) (show 0 < (P.length : Int) by omega)
    have hmem : Abs.rowAt P ((s + k) % P.length).toNat ∈ P := rowAt_mem (by omega)
    have hok : okAdd (sub P f) (nl (Abs.rowAt P ((s + k) % P.length).toNat) 2) = true := by
      have := okCh_of (prop_nums (F.prop _ hmem)).2.2.2.2
      unfold okAdd
      rw [(F.sub f).cl, (F.sub f).srt, decide_eq_true (by omega)]
      rfl
    have hadd := addC_sub F f hmem
    rcases hadd with h5 | ⟨h8, _⟩ | ⟨h0, hl⟩
    · obtain ⟨m, hm⟩ := ih (k + 1) (by omega) ⟨j, by
        by_cases e : k = j
        · subst e
          rw [h5] at h3
          cases h3
        · omega, h2, h3⟩
      refine ⟨m + 1, ?_⟩
      rw [e8_1, hidx, h5, nat_wrap (n := P.length) hkl (by omega)]
      exact ct (decide_eq_true (by omega)) (ct rfl (ct (decide_eq_true (by omega)) (ct (inB_of hm0 hm1) (ct hok (cf rfl (cf rfl hm))))))
    · obtain ⟨m, hm⟩ := ih (k + 1) (by omega) ⟨j, by
        by_cases e : k = j
        · subst e
          rw [h8] at h3
          cases h3
        · omega, h2, h3⟩
      refine ⟨m + 1, ?_⟩
      rw [e8_1, hidx, h8, nat_wrap (n := P.length) hkl (by omega)]
      exact ct (decide_eq_true (by omega)) (ct rfl (ct (decide_eq_true (by omega)) (ct (inB_of hm0 hm1) (ct hok (cf rfl (ct rfl (cf rfl hm)))))))
    · obtain ⟨m, hm⟩ := hfin _ hl (k + 1) (by omega)
      refine ⟨m + 1, ?_⟩
      have hll := sub_len P f
      rw [e8_1, hidx, h0, nat_wrap (n := P.length) hkl (by omega), wrap64 (n := ((sub P f).length : Int) + 1) (by omega) (by omega)]
      exact ct (decide_eq_true (by omega)) (ct rfl (ct (decide_eq_true (by omega)) (ct (inB_of hm0 hm1) (ct hok (ct rfl (cf (bne_eq_false_iff_eq.2 (by simp only [hl]; omega)) (ct (F.sub _).rows (cf (bne_eq_false_iff_eq.2 (F.sub _).valid) hm))))))))

theorem out8 (o P : List (List Cell)) (F : Fit P) (ho : o.length < 4611686018427387904) : ∀ (d : Nat) (f : Int → Int), (sub P f).length + d = P.length →
    ∃ m, goF E (callOf L7) F8 0 m P8_0 (M8_0 o P (sub P f) ((sub P f).length : Int)) = some ([.one (.bool true)], []) := by
  have hlen := F.len
  intro d
  induction d with
  | zero =>
    intro f hf
    refine ⟨1, ?_⟩
    have e : sub P f = P := by
      have : sub P (fun a => max (f a) 1000000) = P := List.filter_eq_self.2 fun r hr => decide_eq_true (by
        have := (F.vld.nums r hr).2.2
        show nr r 1 ≤ max (f (nr r 0)) 1000000
        omega)
      have h2 := sub_len_eq (P := P) (f := f) (g := fun a => max (f a) 1000000) (fun r _ h => by show nr r 1 ≤ max _ _; omega) (by rw [this]; omega)
      refine Eq.trans (sub_congr (g := fun a => max (f a) 1000000) fun r hr => ?_) this
      constructor
      · intro h
        show nr r 1 ≤ max _ _
        omega
      · exact h2 r hr
    rw [e8_0, e]
    exact cf (decide_eq_false (by omega)) (ct F.rows (ct (eqCfg_refl _) rfl))
  | succ d ih =>
    intro f hf
    have hl : (sub P f).length < P.length := by omega
    have hs := gIndex_bound (gAt o ((sub P f).length : Int)) (P.length : Int) (by omega)
    obtain ⟨p, hp, hadd⟩ := addable F f hl
    obtain ⟨q, hq, hqe⟩ := List.getElem_of_mem hp
    have hj : ∃ j : Nat, 0 ≤ j ∧ j < P.length ∧ (addC (sub P f) (nr (Abs.rowAt P ((gIndex (gAt o ((sub P f).length : Int)) (P.length : Int) + j) % P.length).toNat) 0) (nr (Abs.rowAt P ((gIndex (gAt o ((sub P f).length : Int)) (P.length : Int) + j) % P.length).toNat) 1) (nl (Abs.rowAt P ((gIndex (gAt o ((sub P f).length : Int)) (P.length : Int) + j) % P.length).toNat) 2)).2 = 0 := by
      generalize gIndex (gAt o ((sub P f).length : Int)) (P.length : Int) = s at hs
      have h0 := Int.emod_nonneg ((q : Int) - s) (show (P.length : Int) ≠ 0 by omega)
      have h1 := Int.emod_lt_of_pos ((q : Int) - s) (show 0 < (P.length : Int) by omega)
      refine ⟨(((q : Int) - s) % P.length).toNat, by omega, by omega, ?_⟩
      have e : (s + ((((q : Int) - s) % P.length).toNat : Int)) % P.length = q := by
        rw [Int.toNat_of_nonneg h0, Int.add_emod_emod, show s + ((q : Int) - s) = q by omega]
        exact Int.emod_eq_of_lt (by omega) (by omega)
      rw [e, Int.toNat_natCast, rowAt_eq hq, hqe]
      exact hadd
    obtain ⟨m, hm⟩ := in8 o P F f ((sub P f).length : Int) _ hs.1 hs.2 ([.one (.bool true)], []) (fun g hg => by
      have := ih g (by omega)
      rw [hg] at this
      rw [wrap64 (by omega) (by omega)]
      exact this) P.length 0 (by omega) hj
    refine ⟨m + 1, ?_⟩
    rw [e8_0]
    exact ct (decide_eq_true (by omega)) (cf (decide_eq_false (by omega)) (ct (decide_eq_true ho) (ct (decide_eq_true (by omega)) hm)))

theorem law8 (l o : List (List Cell)) (h : (decide (l.length < 4611686018427387904) && decide (o.length < 4611686018427387904)) = true) : ∃ m, runF E (callOf L7) m 8 [.one (.sl false 3 l), .one (.sl false 3 o)] [] = some ([.one (.bool true)], []) := by
  simp only [Bool.and_eq_true, decide_eq_true_eq] at h
  have F := pool_fit l
  have e : sub (gPool l) (fun _ => 0) = [] := List.filter_eq_nil_iff.2 fun r hr => by
    have := (F.vld.nums r hr).2.1
    simp only [decide_eq_true_eq]
    omega
  obtain ⟨m, hm⟩ := out8 o (gPool l) F h.2 (gPool l).length (fun _ => 0) (by rw [e]; simp)
  rw [e] at hm
  refine ⟨m + 1, ?_⟩
  rw [e8]
  exact ct (decide_eq_true h.1) hm

end Go.Proofs.Ytohikghidhdhjaa
