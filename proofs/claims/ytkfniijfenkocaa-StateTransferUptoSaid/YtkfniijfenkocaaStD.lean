/-
  Valid sets of updates: ordered, without gaps; the drawn pools are so. And the laws.
-/
import Derived.Test.YtkfniijfenkocaaStB
namespace Go.Proofs.Ytkfniijfenkocaa
open Go.Abs

theorem kLt_cmp {r q : List Cell} : kLt q r = true ↔ ¬ cmpU (nr r 0) (nr r 1) (nr q 0) (nr q 1) ≤ 0 := by
  rw [kLt_iff]
  have := cmpU_cases (nr r 0) (nr r 1) (nr q 0) (nr q 1)
  omega

theorem vStF_of : ∀ (l : List (List Cell)) (first : Bool) (q : List Cell), vStF first q l = 0 →
    Asc l ∧ (first = false → ∀ r ∈ l, kLt q r = true) ∧ (∀ r ∈ l, vUpdR r = 0) ∧ ∀ r ∈ l, 1 < nr r 1 → ∃ p ∈ (if first = true then l else q :: l), nr p 0 = nr r 0 ∧ nr p 1 = nr r 1 - 1
  | [], first, q, _ => ⟨by simp [Asc], fun _ r hr => (by cases hr), fun r hr => (by cases hr), fun r hr => (by cases hr)⟩
  | r :: l, first, q, h => by
    rw [vSt_step] at h
    by_cases h0 : vUpdR r = 0
    · rw [if_neg (by simpa using h0)] at h
      split at h
      · simp at h
      · rename_i h1
        split at h
        · simp at h
        · rename_i h2
          obtain ⟨g1, g2, g3, g4⟩ := vStF_of l false r h
          have hq : first = false → kLt q r = true := fun hf => kLt_cmp.2 fun hh => h1 ⟨hf, hh⟩
          refine ⟨asc_cons.2 ⟨g2 rfl, g1⟩, fun hf x hx => ?_, fun x hx => ?_, fun x hx hx1 => ?_⟩
          · rcases List.mem_cons.1 hx with rfl | hx
            · exact hq hf
            · exact kLt_trans (hq hf) (g2 rfl x hx)
          · rcases List.mem_cons.1 hx with rfl | hx
            · exact h0
            · exact g3 x hx
          · rcases List.mem_cons.1 hx with rfl | hx
            · cases first with
              | true => exact absurd ⟨hx1, Or.inl rfl⟩ h2
              | false =>
                refine ⟨q, by simp, ?_⟩
                have e1 : nr q 0 = nr x 0 := Classical.byContradiction fun hh => h2 ⟨hx1, Or.inr (Or.inl hh)⟩
                have e2 : nr q 1 = nr x 1 - 1 := Classical.byContradiction fun hh => h2 ⟨hx1, Or.inr (Or.inr hh)⟩
                exact ⟨e1, e2⟩
            · obtain ⟨p, hp, e⟩ := g4 x hx hx1
              refine ⟨p, ?_, e⟩
              simp only [Bool.false_eq_true, if_false] at hp
              cases first with
              | true => simpa using hp
              | false =>
                simp only [Bool.false_eq_true, if_false]
                exact List.mem_cons_of_mem _ hp
    · rw [if_pos h0] at h
      exact absurd h h0

theorem upd_nums {r : List Cell} (h : vUpdR r = 0) : 101 ≤ nr r 0 ∧ nr r 0 < 107 ∧ 1 ≤ nr r 1 ∧ nr r 1 ≤ 8 ∧ okEf (nl r 3) = true := by
  have := vUpd_ok h
  exact ⟨this.1, this.2.1, this.2.2.1, this.2.2.2.1, vUpd_few h⟩

theorem valid_of {c : List (List Cell)} (h : vSt c = 0) : Vld c ∧ ∀ r ∈ c, vUpdR r = 0 := by
  obtain ⟨g1, _, g3, g4⟩ := vStF_of c true [] h
  refine ⟨⟨g1, fun r hr h1 => ?_, fun r hr => ?_⟩, g3⟩
  · simpa using g4 r hr h1
  · have := upd_nums (g3 r hr)
    omega

theorem vStF_mk : ∀ (l pre : List (List Cell)) (q : List Cell), Vld (pre ++ q :: l) → (∀ r ∈ l, vUpdR r = 0) → vStF false q l = 0
  | [], _, _, _, _ => rfl
  | r :: l, pre, q, hV, hp => by
    have hs := List.pairwise_append.1 hV.asc
    have hql := asc_cons.1 hs.2.1
    have hqr := hql.1 r List.mem_cons_self
    rw [vSt_step, if_neg (by simpa using hp r List.mem_cons_self), if_neg (fun hh => kLt_cmp.1 hqr hh.2), if_neg, vStF_mk l (pre ++ [q]) r (by rw [List.append_assoc]; exact hV) fun x hx => hp x (List.mem_cons_of_mem _ hx)]
    rintro ⟨h1, h2⟩
    obtain ⟨p, hpm, e0, e1⟩ := hV.gap r (by simp) h1
    have hqr' := kLt_iff.1 hqr
    have hpq : nr q 0 = nr r 0 ∧ nr q 1 = nr r 1 - 1 := by
      rcases List.mem_append.1 hpm with hpm | hpm
      · have := kLt_iff.1 (hs.2.2 p hpm q List.mem_cons_self)
        omega
      · rcases List.mem_cons.1 hpm with rfl | hpm
        · exact ⟨e0, e1⟩
        · exfalso
          rcases List.mem_cons.1 hpm with rfl | hpm
          · omega
          · have := kLt_iff.1 ((asc_cons.1 hql.2).1 p hpm)
            omega
    rcases h2 with h2 | h2 | h2
    · cases h2
    · exact h2 hpq.1
    · exact h2 hpq.2

theorem valid_mk {c : List (List Cell)} (h : Vld c) (hp : ∀ r ∈ c, vUpdR r = 0) : vSt c = 0 := by
  cases c with
  | nil => rfl
  | cons r l =>
    have hV := vStF_mk l [] r h fun x hx => hp x (List.mem_cons_of_mem _ hx)
    have hl := asc_cons.1 h.asc
    unfold vSt
    rw [vSt_step, if_neg (by simpa using hp r List.mem_cons_self), if_neg (by simp), if_neg, hV]
    rintro ⟨h1, _⟩
    obtain ⟨p, hpm, e0, e1⟩ := h.gap r List.mem_cons_self h1
    rcases List.mem_cons.1 hpm with rfl | hpm
    · omega
    · have := kLt_iff.1 (hl.1 p hpm)
      omega

/-- all that the contracts ask of a valid state -/
structure Fit (c : List (List Cell)) : Prop where
  vld : Vld c
  upd : ∀ r ∈ c, vUpdR r = 0
  ur : c.all isUR = true
  len : c.length ≤ 100

theorem Fit.short {c : List (List Cell)} (h : Fit c) : shortRows c = true := List.all_eq_true.2 fun r hr => by
  have := vUpd_ok (h.upd r hr)
  unfold shortRow
  exact decide_eq_true (by omega)
theorem Fit.ln {c : List (List Cell)} (h : Fit c) : okLn c = true := okLn_mk (by have := h.len; omega)
theorem Fit.rows {c : List (List Cell)} (h : Fit c) : okRows c = true := okRows_mk (by have := h.len; omega) h.short
theorem Fit.srt {c : List (List Cell)} (h : Fit c) : okSrt c = true := okSrt_mk (by have := h.len; omega) h.vld.asc
theorem Fit.cf {c : List (List Cell)} (h : Fit c) : okCf c = true := by
  unfold okCf
  rw [h.ln, h.ur]
  rfl
theorem Fit.cl {c : List (List Cell)} (h : Fit c) : okCl c = true := by
  unfold okCl
  rw [h.srt, h.ur, Bool.true_and, Bool.true_and]
  exact List.all_eq_true.2 fun r hr => vUpd_few (h.upd r hr)
theorem Fit.un {c d : List (List Cell)} (h : Fit c) (g : Fit d) : okUn c d = true := by
  unfold okUn
  rw [h.cl, g.cl, Bool.true_and, Bool.true_and]
  exact decide_eq_true (by have := h.len; have := g.len; omega)
theorem Fit.mg {c d : List (List Cell)} (h : Fit c) (g : Fit d) : okMg c d = true := by
  unfold okMg
  rw [h.cl, g.cf, Bool.true_and, Bool.true_and, decide_eq_true (by have := h.len; omega), decide_eq_true (by have := g.len; omega)]
  rfl
theorem Fit.valid {c : List (List Cell)} (h : Fit c) : vSt c = 0 := valid_mk h.vld h.upd

theorem fit_mk {c : List (List Cell)} (h : vSt c = 0) (hp : c.all isUR = true) : Fit c :=
  ⟨(valid_of h).1, (valid_of h).2, hp, by have := vSt_nine h; omega⟩

theorem all_sub {c d : List (List Cell)} {p : List Cell → Bool} (h : c.all p = true) (hs : ∀ r ∈ d, r ∈ c) : d.all p = true :=
  List.all_eq_true.2 fun r hr => List.all_eq_true.1 h r (hs r hr)

theorem Fit.sub {c : List (List Cell)} (h : Fit c) (f : Int → Int) : Fit (sub c f) :=
  ⟨h.vld.sub f, fun r hr => h.upd r (mem_sub.1 hr).1, all_sub h.ur fun r hr => (mem_sub.1 hr).1, Nat.le_trans (sub_len _ _) h.len⟩

/- THE DRAWN POOL -/

structure PInv (a : Nat) (i : Int) (acc : List (List Cell)) : Prop where
  asc : Asc acc
  gap : Gap acc
  low : ∀ r ∈ acc, nr r 0 < 101 + a ∨ (nr r 0 = 101 + a ∧ nr r 1 ≤ i)
  last : 0 < i → ∃ q ∈ acc, nr q 0 = 101 + a ∧ nr q 1 = i
  pr : acc.all isUR = true

theorem gUpdsF_inv (l : List (List Cell)) (a : Nat) : ∀ (d i : Nat) (q : Int) (acc : List (List Cell)), 0 ≤ q → PInv a q acc → ∃ k, 0 ≤ k ∧ PInv a k (gUpdsF l a d i q acc)
  | 0, _, q, _, h0, h => ⟨q, h0, h⟩
  | d + 1, i, q, acc, h0, h => by
    unfold gUpdsF
    split
    · generalize hr : gUpd (101 + a) (q + 1) (nr (Abs.rowAt l i) 0 % 1099511627776 / 3) = g
      have e0 : nr g 0 = 101 + a := by rw [← hr]; rfl
      have e1 : nr g 1 = q + 1 := by rw [← hr]; rfl
      have e2 : isUR g = true := by rw [← hr]; rfl
      refine gUpdsF_inv l a d (i + 1) (q + 1) (acc ++ [g]) (by omega) ⟨?_, ?_, ?_, ?_, ?_⟩
      · refine List.pairwise_append.2 ⟨h.asc, by simp, fun x hx y hy => ?_⟩
        rw [List.mem_singleton] at hy
        subst hy
        have := h.low x hx
        rw [kLt_iff]
        omega
      · intro r hr h1
        rcases List.mem_append.1 hr with hr | hr
        · obtain ⟨p, hp, e⟩ := h.gap r hr h1
          exact ⟨p, List.mem_append.2 (.inl hp), e⟩
        · rw [List.mem_singleton] at hr
          subst hr
          obtain ⟨p, hp, f0, f1⟩ := h.last (by omega)
          exact ⟨p, List.mem_append.2 (.inl hp), by omega, by omega⟩
      · intro r hr
        rcases List.mem_append.1 hr with hr | hr
        · have := h.low r hr
          omega
        · rw [List.mem_singleton] at hr
          subst hr
          omega
      · intro _
        exact ⟨_, List.mem_append.2 (.inr (List.mem_singleton.2 rfl)), e0, by omega⟩
      · rw [List.all_append, h.pr, List.all_cons, List.all_nil, e2]
        rfl
    · exact gUpdsF_inv l a d (i + 1) q acc h0 h

theorem PInv.next {a : Nat} {i : Int} {acc : List (List Cell)} (h : PInv a i acc) : PInv (a + 1) 0 acc :=
  ⟨h.asc, h.gap, fun r hr => by have := h.low r hr; omega, fun h0 => absurd h0 (by omega), h.pr⟩

theorem pool_fit (l : List (List Cell)) : Fit (gUpds l) := by
  have h0 : PInv 0 0 [] := ⟨by simp [Asc], fun r hr => (by cases hr), fun r hr => (by cases hr), fun h0 => absurd h0 (by omega), rfl⟩
  obtain ⟨k0, _, h1⟩ := gUpdsF_inv l 0 (min l.length 24) 0 0 [] (by omega) h0
  obtain ⟨k1, _, h2⟩ := gUpdsF_inv l 1 (min l.length 24) 0 0 _ (by omega) h1.next
  obtain ⟨k2, _, h3⟩ := gUpdsF_inv l 2 (min l.length 24) 0 0 _ (by omega) h2.next
  have ho := gUpds_ok l
  have hv : ∀ r ∈ gUpds l, vUpdR r = 0 := fun r hr => (ho.1 r hr).1
  exact ⟨⟨h3.asc, h3.gap, fun r hr => by
    have := upd_nums (hv r hr)
    omega⟩, hv, h3.pr, by have := ho.2; omega⟩

/- HOW MANY -/

theorem cntV_vecF (b : Int) : ∀ (c v : List (List Cell)), AscV v → Asc c → (∀ r ∈ c, AtMost v (nr r 0)) → cntV (vecF v c) b = cntV v b + cntS c b
  | [], v, _, _, _ => by
    show cntV v b = cntV v b + 0
    omega
  | r :: c, v, hv, hc, hm => by
    rw [asc_cons] at hc
    have h1 := vstep_asc hv (hm r List.mem_cons_self)
    have ih := cntV_vecF b c (vstep v (nr r 0)) h1.1 hc.2 fun q hq => by
      have := kLt_iff.1 (hc.1 q hq)
      intro e he
      have := h1.2 e he
      omega
    show cntV (vecF (vstep v (nr r 0)) c) b = _
    rw [ih, vstep_cntV hv (hm r List.mem_cons_self), cntS_cons]
    by_cases h : b = nr r 0
    · subst h
      rw [if_pos rfl, if_pos rfl]
      omega
    · rw [if_neg h, if_neg (fun e => h e.symm)]
      omega

theorem cntV_S {c : List (List Cell)} (h : Asc c) (a : Int) : cntV (vecK c) a = cntS c a := by
  have := cntV_vecF a c [] (by simp [AscV]) h fun r _ e he => by cases he
  rw [show cntV ([] : List (List Cell)) a = 0 from rfl, Int.zero_add] at this
  exact this

/- THE LAWS -/

theorem okArg_of {c : List (List Cell)} (h : okArg c = true) : c.length < 9223372036854775808 ∧ c.all isUR = true ∧ ∀ r ∈ c, (nl r 3).all (fun e => okI (nr e 3)) = true := by
  unfold okArg at h
  simp only [Bool.and_eq_true, decide_eq_true_eq] at h
  exact ⟨h.1, h.2.1, fun r hr => List.all_eq_true.1 h.2.2 r hr⟩

theorem law3 (c : List (List Cell)) (h : c.length < 9223372036854775808) : runF E (callOf L12) 1 3 [.one (.sl false 43 c)] [] = some ([.one (.bool true)], []) := by
  rw [e3]
  refine ct (decide_eq_true h) (cs (fun _ => rfl) fun g => ?_)
  have g' : c.length ≤ 60 := by simpa using g
  have hl := okLn_mk (c := c) (by omega)
  exact ct hl (ct hl (ct (beq_iff_eq.2 rfl) rfl))

theorem eqSt_len {c d : List (List Cell)} (h : eqSt c d = true) : c.length = d.length := by
  unfold eqSt at h
  simp only [Bool.and_eq_true, decide_eq_true_eq] at h
  exact h.1

theorem fit_uni {c d : List (List Cell)} (fc : Fit c) (fd : Fit d) : okRows (uniK c d) = true := by
  have hul := uniK_len d c
  refine okRows_mk (by have := fc.len; have := fd.len; omega) (List.all_eq_true.2 fun r hr => ?_)
  rcases uniK_mem hr with h | h
  · exact List.all_eq_true.1 fc.short r h
  · exact List.all_eq_true.1 fd.short r h

theorem law4 (c d : List (List Cell)) (h : (okArg c && okArg d) = true) : runF E (callOf L3) 1 4 [.one (.sl false 43 c), .one (.sl false 43 d)] [] = some ([.one (.bool true)], []) := by
  simp only [Bool.and_eq_true] at h
  obtain ⟨sc, pc, _⟩ := okArg_of h.1
  obtain ⟨sd, pd, _⟩ := okArg_of h.2
  rw [e4]
  refine ct (decide_eq_true sc) (cs (fun _ => rfl) fun g1 => ct (decide_eq_true sd) (cs (fun _ => rfl) fun g2 => ?_))
  have g1' : c.length ≤ 60 := by simpa using g1
  have g2' : d.length ≤ 60 := by simpa using g2
  have rc := okLn_mk (c := c) (by omega)
  have rd := okLn_mk (c := d) (by omega)
  have hcs : okSl [[Cell.slice 43 c], [Cell.slice 43 d]] = true := by
    unfold okSl
    show (_ && (okLn c && (okLn d && true))) = true
    rw [rc, rd]
    rfl
  refine ct hcs (cs (fun _ => rfl) (fun g3 => ?_))
  have hval : validSs [[Cell.slice 43 c], [Cell.slice 43 d]] = true := by simpa using g3
  have hv : vSt c = 0 ∧ vSt d = 0 := by
    unfold validSs validF validF at hval
    simp only [Bool.and_eq_true, decide_eq_true_eq] at hval
    exact ⟨hval.1, hval.2.2.1⟩
  have fc := fit_mk hv.1 pc
  have fd := fit_mk hv.2 pd
  have hvec := vecR_eq fc.vld (by have := fc.len; omega)
  have hk := vecK_cnt c
  have hm := mrgK_uni fc.vld.asc fd.vld.asc
  have r1 := fit_uni fc fd
  have l1 : okLn (vecK c) = true := okLn_mk (by have := fc.len; omega)
  rw [hvec, hm, fc.ln, fd.ln, fc.srt, fd.srt, fc.un fd, fc.cf, fd.cf, l1, eqVec_refl, r1, eqSt_refl]
  simp
  cases contK c d <;> cases contK d c <;> rfl

theorem fit_one {r : List Cell} : Asc [r] := by simp [Asc]

theorem law6 (c : List (List Cell)) (a n t : Int) (p : List (List Cell)) (h : (okArg c && okArgE p) = true) : runF E (callOf L4) 1 6 [.one (.sl false 43 c), .agg [.int .i64 a, .int .i64 n, .int .i64 t, .sl false 61 p]] [] = some ([.one (.bool true)], []) := by
  simp only [Bool.and_eq_true] at h
  obtain ⟨sc, pc, _⟩ := okArg_of h.1
  rw [e6]
  refine ct (decide_eq_true sc) (cs (fun _ => rfl) fun g1 => cs (fun _ => rfl) fun g2 => ?_)
  have g1' : c.length ≤ 60 := by simpa using g1
  have g2' := of_decide_eq_false g2
  refine ct (okLn_mk (by omega)) (cs (fun _ => rfl) (fun g3 => ?_))
  have hv : vSt c = 0 := by simpa using g3
  have fc := fit_mk hv pc
  have hef : okEf p = true := by unfold okEf; exact decide_eq_true (by omega)
  have he : addS c a n t p = addR c a n t p := by
    unfold addS addR
    rw [vecR_eq fc.vld (by have := fc.len; omega), mrgK_uni fc.vld.asc fit_one, cntV_S fc.vld.asc]
    rfl
  have hr : okRows (addS c a n t p).1 = true := by
    unfold addS
    split
    · rfl
    · rename_i hvu
      split
      · rfl
      · split
        · rfl
        · have hl := insK_len c (urow a n t p)
          refine okRows_mk (c := insK c (urow a n t p)) (by have := fc.len; omega) (all_insK fc.short ?_)
          have : nl (urow a n t p) 3 = p := rfl
          unfold shortRow
          rw [this]
          exact decide_eq_true (by omega)
  refine ct (fits_of (by simp; omega)) (ct (by rw [fc.cl, hef]; rfl) (ct fc.cf (ct (by rw [he]; exact beq_iff_eq.2 rfl) (ct hr (ct (by rw [he]; exact eqSt_refl _) (ct fc.rows (ct (by rw [List.nil_append]; exact eqSt_refl _) rfl)))))))

theorem law7 (c v : List (List Cell)) (k : Int) (h : (okArg c && okArgV v) = true) : runF E (callOf L6) 1 7 [.one (.sl false 43 c), .one (.sl false 65 v), .one (.int .i64 k)] [] = some ([.one (.bool true)], []) := by
  simp only [Bool.and_eq_true] at h
  obtain ⟨sc, pc, _⟩ := okArg_of h.1
  rw [e7]
  refine ct (decide_eq_true sc) (cs (fun _ => rfl) fun g1 => cs (fun _ => rfl) fun g2 => ?_)
  have g1' : c.length ≤ 60 := by simpa using g1
  have g2' := of_decide_eq_false g2
  refine ct (okLn_mk (by omega)) (cs (fun _ => rfl) (fun g3 => ?_))
  have hv : vSt c = 0 := by simpa using g3
  have fc := fit_mk hv pc
  have hl : okLn v = true := okLn_mk (by omega)
  refine ct hl (cs (fun _ => rfl) (fun g4 => ?_))
  have hvv : vVec v = 0 := by simpa using g4
  have hvec : okVec v = true := okVec_mk (by omega) (vVecF_of v true [] hvv).1
  have hmem : ∀ r ∈ (beyS c v k).1, r ∈ c := fun r hr => (List.mem_filter.1 (List.mem_of_mem_take hr)).1
  have hr : okRows (beyS c v k).1 = true := by
    refine okRows_mk ?_ (all_sub fc.short hmem)
    have h1 : (bey c v).length ≤ c.length := List.length_filter_le _ _
    unfold beyS
    rw [List.length_take]
    omega
  rw [beyS_R]
  refine ct (by rw [fc.cl, hvec]; rfl) (ct (by rw [fc.cf, hl]; rfl) (ct hr (ct (eqSt_refl _) (ct (beq_iff_eq.2 rfl) rfl))))

theorem law9 (c x : List (List Cell)) (hg : (okArg c && okB x) = true) : runF E (callOf L7) 1 9 [.one (.sl false 43 c), .one (.sl false 5 x)] [] = some ([.one (.bool true)], []) := by
  simp only [Bool.and_eq_true] at hg
  obtain ⟨sc, pc, hi⟩ := okArg_of hg.1
  have hx := hg.2
  rw [e9]
  refine ct (decide_eq_true sc) (cs (fun _ => rfl) fun g1 => cs (fun _ => rfl) fun g2 => ?_)
  have g1' : c.length ≤ 60 := by simpa using g1
  have g2' := of_decide_eq_false g2
  refine ct (okLn_mk (by omega)) (cs (fun _ => rfl) (fun g3 => ?_))
  have hv : vSt c = 0 := by simpa using g3
  have fc := fit_mk hv pc
  have ho := st_ok hv hi
  have hfew := few_ok ho
  have hl := encAll_len c ho
  have hu := uenc_len (c.length : Int)
  have hlen : (encS c).length ≤ 200100 := by
    unfold encS
    rw [List.length_append]
    omega
  have hap : okSApp [] c = true := by
    unfold okSApp
    simp only [Bool.and_eq_true, decide_eq_true_eq]
    exact ⟨by simp, by omega, hfew⟩
  have hrd : okRd (encS c ++ x) = true := okRd_mk (okB_app (okB_app (uencF_okB 10 _ (by omega)) (encAll_okB c ho)) hx) (by simp; omega)
  rw [List.nil_append, decS_enc hv ho]
  refine ct hap (ct (fits_of (by simp; omega)) (ct (fits_of (by omega)) (ct hrd (ct hap (ct (by simp) (ct (by simp) (ct (by simp) (ct fc.rows (ct ?_ rfl)))))))))
  simp [eqSt, eqStF_re]

theorem law10 (x : List (List Cell)) (hx : okB x = true) : runF E (callOf L9) 1 10 [.one (.sl false 5 x)] [] = some ([.one (.bool true)], []) := by
  rw [e10]
  refine cs (fun _ => rfl) (fun g1 => ?_)
  have g1' := of_decide_eq_false g1
  have hrd := okRd_mk hx (by omega)
  exact ct hrd (ct hrd (ct (decS_rows hrd) (ct (eqSt_refl _) (ct (by simp) (ct (by simp) rfl)))))

end Go.Proofs.Ytkfniijfenkocaa
