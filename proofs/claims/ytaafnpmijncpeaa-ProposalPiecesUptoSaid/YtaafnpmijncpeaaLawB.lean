/-
  The laws of encodings, in plain Lean.
-/
import Derived.Test.YtaafnpmijncpeaaPure5
import Derived.Test.YtaafnpmijncpeaaLawA
namespace Go.Proofs.Ytaafnpmijncpeaa
open Go.Abs

/-- numbers that the reader takes -/
def small (l : List (List Cell)) : Prop := ∀ r ∈ l, 0 ≤ nr r 0 ∧ nr r 0 ≤ 2147483647

def reNum (r : List Cell) : List Cell := [.int .i64 (nr r 0)]
def reCh (r : List Cell) : List Cell := [.int .i64 (nr r 0), .int .i64 (nr r 1), .int .i64 (nr r 2), .int .i64 (nr r 3), .int .i64 (nr r 4), .int .i64 (nr r 5), .int .i64 (nr r 6)]

theorem rnum2_enc {v : Int} (h0 : 0 ≤ v) (h1 : v ≤ 2147483647) (rest : List (List Cell)) : rnum2 (uenc (IntKind.wrap .u64 v) ++ rest) = (v, ((uenc (IntKind.wrap .u64 v)).length : Int), 0) := by
  have h := udec_uenc (v := IntKind.wrap .u64 v) (wrapu_range v).1 (wrapu_range v).2 rest
  unfold rnum2
  rw [h, if_neg (by simp), wrapu h0 (by omega)]
  simp only
  rw [if_neg (by omega)]

theorem rread_enc (rest : List (List Cell)) : ∀ (l pre acc : List (List Cell)), small l →
    rreadF (pre ++ (encL l ++ rest)) l.length pre.length acc = (acc ++ l.map reNum, ((pre.length + (encL l).length : Nat) : Int), 0)
  | [], pre, acc, _ => by simp [rreadF, encL]
  | r :: l, pre, acc, h => by
    have hr := h r (List.mem_cons_self)
    have ih := rread_enc rest l (pre ++ uenc (IntKind.wrap .u64 (nr r 0))) (acc ++ [reNum r]) (fun q hq => h q (List.mem_cons_of_mem _ hq))
    have e : (pre ++ (encL (r :: l) ++ rest)).drop ((pre.length : Nat) : Int).toNat = uenc (IntKind.wrap .u64 (nr r 0)) ++ (encL l ++ rest) := by
      rw [Int.toNat_natCast, List.drop_left, encL, List.append_assoc]
    rw [List.length_cons, rreadF, e, rnum2_enc hr.1 hr.2, if_neg (by simp)]
    simp only
    have e2 : pre ++ (encL (r :: l) ++ rest) = (pre ++ uenc (IntKind.wrap .u64 (nr r 0))) ++ (encL l ++ rest) := by
      rw [encL]; simp only [List.append_assoc]
    rw [e2, ← Int.natCast_add, ← List.length_append]
    refine ih.trans ?_
    simp only [List.map_cons, List.append_assoc, List.length_append, encL, List.cons_append, List.nil_append]
    congr 3
    omega

theorem mkCh_enc (r : List Cell) : mkCh ((chNums r).map reNum) = reCh r := rfl

theorem small_app {x y : List (List Cell)} : small (x ++ y) ↔ small x ∧ small y := by
  unfold small
  simp only [List.mem_append]
  exact ⟨fun h => ⟨fun r hr => h r (Or.inl hr), fun r hr => h r (Or.inr hr)⟩, fun h r hr => hr.elim (h.1 r) (h.2 r)⟩

theorem decCs_enc (rest : List (List Cell)) : ∀ (c pre acc : List (List Cell)), small (chsNums c) →
    decCs (pre ++ (encL (chsNums c) ++ rest)) c.length pre.length acc = (acc ++ c.map reCh, ((pre.length + (encL (chsNums c)).length : Nat) : Int), 0)
  | [], pre, acc, _ => by simp [decCs, encL, chsNums]
  | r :: c, pre, acc, h => by
    rw [chsNums, small_app] at h
    have ih := decCs_enc rest c (pre ++ encL (chNums r)) (acc ++ [reCh r]) h.2
    have e : (pre ++ (encL (chsNums (r :: c)) ++ rest)).drop ((pre.length : Nat) : Int).toNat = [] ++ (encL (chNums r) ++ (encL (chsNums c) ++ rest)) := by
      rw [Int.toNat_natCast, List.drop_left, chsNums, encL_app, List.append_assoc, List.nil_append]
    have e7 := rread_enc (encL (chsNums c) ++ rest) (chNums r) [] [] h.1
    have e7' : rread ([] ++ (encL (chNums r) ++ (encL (chsNums c) ++ rest))) 7 = ((chNums r).map reNum, ((encL (chNums r)).length : Int), 0) := by
      simpa [rread, chNums] using e7
    rw [List.length_cons, decCs, e, e7', if_neg (by simp)]
    simp only
    have e2 : pre ++ (encL (chsNums (r :: c)) ++ rest) = (pre ++ encL (chNums r)) ++ (encL (chsNums c) ++ rest) := by
      rw [chsNums, encL_app]; simp only [List.append_assoc]
    rw [e2, ← Int.natCast_add, ← List.length_append, mkCh_enc]
    refine ih.trans ?_
    simp only [List.map_cons, List.append_assoc, List.length_append, chsNums, encL_app, List.cons_append, List.nil_append]
    congr 3
    omega

theorem vChR_re (r : List Cell) : vChR (reCh r) = vChR r := rfl

theorem dup_re (pre : List (List Cell)) (r : List Cell) : dup (pre.map reCh) (reCh r) = dup pre r := by
  unfold dup
  rw [List.any_map]
  rfl

theorem vChs_re : ∀ (c pre : List (List Cell)), vChs (pre.map reCh) (c.map reCh) = vChs pre c
  | [], _ => rfl
  | r :: c, pre => by
    rw [List.map_cons, vChs, vChs, vChR_re, dup_re]
    have := vChs_re c (pre ++ [r])
    rw [List.map_append] at this
    simp only [List.map_cons, List.map_nil] at this
    rw [this]

theorem vProp_re (a n : Int) (c : List (List Cell)) : vProp a n (c.map reCh) = vProp a n c := by
  unfold vProp
  rw [List.length_map]
  have := vChs_re c []
  simp only [List.map_nil] at this
  rw [this]

theorem vChs_all : ∀ (c pre : List (List Cell)), vChs pre c = 0 → ∀ r ∈ c, vChR r = 0
  | [], _, _, r, hr => by cases hr
  | q :: c, pre, h, r, hr => by
    rw [vChs] at h
    by_cases h0 : vChR q = 0
    · rw [if_neg (by simpa using h0)] at h
      split at h
      · simp at h
      · rcases List.mem_cons.1 hr with rfl | hr
        · exact h0
        · exact vChs_all c _ h r hr
    · rw [if_pos h0] at h
      exact absurd h h0

theorem vChR_small {r : List Cell} (h : vChR r = 0) : small (chNums r) := by
  unfold vChR vChange vRule at h
  have hh : 0 ≤ nr r 0 ∧ nr r 0 ≤ 1000 ∧ 0 ≤ nr r 1 ∧ nr r 1 ≤ 1000 ∧ 0 ≤ nr r 2 ∧ nr r 2 ≤ 1000 ∧ 0 ≤ nr r 3 ∧ nr r 3 ≤ 1000 ∧ 0 ≤ nr r 4 ∧ nr r 4 ≤ 1000 ∧ 0 ≤ nr r 5 ∧ nr r 5 ≤ 1000 ∧ 0 ≤ nr r 6 ∧ nr r 6 ≤ 1000 := by
    generalize nr r 0 = k at *
    generalize nr r 1 = s at *
    generalize nr r 2 = w at *
    generalize nr r 3 = v at *
    generalize nr r 4 = rk at *
    generalize nr r 5 = rc at *
    generalize nr r 6 = rf at *
    (repeat' split at h) <;> first | omega | (simp at h)
  intro q hq
  simp only [chNums, List.mem_cons, List.not_mem_nil, or_false] at hq
  rcases hq with rfl | rfl | rfl | rfl | rfl | rfl | rfl <;> simp only [nr, cellAt, Cell.toInt] at hh ⊢ <;> omega

theorem chs_small : ∀ (c : List (List Cell)), (∀ r ∈ c, vChR r = 0) → small (chsNums c)
  | [], _ => fun r hr => by cases hr
  | r :: c, h => by
    rw [chsNums, small_app]
    exact ⟨vChR_small (h r (List.mem_cons_self)), chs_small c (fun q hq => h q (List.mem_cons_of_mem _ hq))⟩

theorem vProp_ok {a n : Int} {c : List (List Cell)} (h : vProp a n c = 0) : 201 ≤ a ∧ a < 204 ∧ 1 ≤ n ∧ n ≤ 3 ∧ 1 ≤ c.length ∧ c.length ≤ 6 ∧ vChs [] c = 0 := by
  unfold vProp at h
  split at h
  · simp at h
  · split at h
    · simp at h
    · split at h
      · simp at h
      · omega

theorem eqChs_re : ∀ (c : List (List Cell)), eqChs c (c.map reCh) = true
  | [] => rfl
  | r :: c => by
    rw [List.map_cons, eqChs]
    show (eqChR r (reCh r) && eqChs c (c.map reCh)) = true
    rw [eqChs_re c, Bool.and_true]
    simp [eqChR, eqCh, reCh, nr, cellAt, Cell.toInt]

/-- a valid proposal is read back, whatever follows -/
theorem decP_enc {a n : Int} {c : List (List Cell)} (h : vProp a n c = 0) (rest : List (List Cell)) : decP (encP a n c ++ rest) = (a, n, c.map reCh, ((encP a n c).length : Int), 0) := by
  obtain ⟨h1, h2, h3, h4, h5, h6, h7⟩ := vProp_ok h
  have hs : small (headNums a n c.length) := by
    intro q hq
    simp only [headNums, List.mem_cons, List.not_mem_nil, or_false] at hq
    rcases hq with rfl | rfl | rfl <;> simp only [nr, cellAt, Cell.toInt] <;> omega
  have hc := chs_small c (vChs_all c [] h7)
  have e : encP a n c ++ rest = [] ++ (encL (headNums a n c.length) ++ (encL (chsNums c) ++ rest)) := by
    rw [encP, encL_app, List.append_assoc, List.nil_append]
  have e3 : rread (encP a n c ++ rest) 3 = ((headNums a n c.length).map reNum, ((encL (headNums a n c.length)).length : Int), 0) := by
    have := rread_enc (encL (chsNums c) ++ rest) (headNums a n c.length) [] [] hs
    rw [← e] at this
    simpa [rread, headNums] using this
  have e4 : decCs (encP a n c ++ rest) c.length ((encL (headNums a n c.length)).length : Int) [] = (c.map reCh, ((encP a n c).length : Int), 0) := by
    have := decCs_enc rest c (encL (headNums a n c.length)) [] hc
    have e5 : encL (headNums a n c.length) ++ (encL (chsNums c) ++ rest) = encP a n c ++ rest := by
      rw [encP, encL_app, List.append_assoc]
    rw [e5] at this
    rw [this, encP, encL_app, List.length_append, List.nil_append]
  rw [decP_eq, e3, if_neg (by simp)]
  have k0 : nr (Abs.rowAt ((headNums a n c.length).map reNum) 0) 0 = a := rfl
  have k1 : nr (Abs.rowAt ((headNums a n c.length).map reNum) 1) 0 = n := rfl
  have k2 : nr (Abs.rowAt ((headNums a n c.length).map reNum) 2) 0 = (c.length : Int) := rfl
  simp only [k0, k1, k2, Int.toNat_natCast]
  rw [if_neg (by omega), e4]
  unfold fin5
  simp only
  rw [if_neg (by simp), vProp_re, h, if_neg (by simp)]

theorem eqP_re (a n : Int) (c : List (List Cell)) : eqP a n c a n (c.map reCh) = true := by
  simp [eqP, eqChs_re]

theorem eqChs_re2 : ∀ (c : List (List Cell)), eqChs (c.map reCh) c = true
  | [] => rfl
  | r :: c => by
    rw [List.map_cons, eqChs]
    show (eqChR (reCh r) r && eqChs (c.map reCh) c) = true
    rw [eqChs_re2 c, Bool.and_true]
    simp [eqChR, eqCh, reCh, nr, cellAt, Cell.toInt]

theorem eqP_re2 (a n : Int) (c : List (List Cell)) : eqP a n (c.map reCh) a n c = true := by
  simp [eqP, eqChs_re2]

theorem encP_len (a n : Int) (c : List (List Cell)) : (encP a n c).length ≤ 30 + 70 * c.length := by
  have := encL_len (headNums a n c.length ++ chsNums c)
  rw [List.length_append, chsNums_len] at this
  have h3 : (headNums a n c.length).length = 3 := rfl
  unfold encP
  omega

theorem law7 (a n : Int) (c x : List (List Cell)) (hx : okB x = true) : runF E (callOf L23) 1 7 [.agg [.int .i64 a, .int .i64 n, .sl false 25 c], .one (.sl false 5 x)] [] = some ([.one (.bool true)], []) := by
  rw [e7]
  refine cs (fun _ => rfl) (fun g1 => cs (fun _ => rfl) (fun g2 => ?_))
  have g1' := of_decide_eq_false g1
  have g2' := of_decide_eq_false g2
  refine ct (decide_eq_true (by omega)) ?_
  by_cases hv : vProp a n c = 0
  · have hl := encP_len a n c
    have hap : okApp [] c = true := by
      unfold okApp
      simp; omega
    have hrd : okRd (encP a n c ++ x) = true := okRd_mk (okB_app (encL_okB _) hx) (by simp; omega)
    rw [List.nil_append, decP_enc hv]
    refine cf (by simpa using hv) (ct hap (ct (fits_of (by simp; omega)) (ct (fits_of (by omega)) (ct hrd (ct hap (ct (by simp) (ct (by simp) (ct (by simp) (ct (decide_eq_true (by omega)) (ct (eqP_re a n c) rfl))))))))))
  · exact ct (by simpa using hv) rfl

theorem decP_len (x : List (List Cell)) (hx : okRd x = true) : (decP x).2.2.1.length ≤ 6 := by
  rw [decP_eq]
  split
  · simp
  · rename_i h0
    split
    · simp
    · rename_i h6
      unfold fin5
      split
      · simp
      · rename_i h1
        split
        · simp
        · have hb := rread_bound hx (c := 3) (by simpa using h0)
          have := (decCs_bound x hx _ _ [] hb.1 hb.2.1 (by simpa using h1)).2.2
          simp only [this, List.length_nil]
          omega

theorem law8 (x : List (List Cell)) (hx : okB x = true) : runF E (callOf L7) 1 8 [.one (.sl false 5 x)] [] = some ([.one (.bool true)], []) := by
  rw [e8]
  refine cs (fun _ => rfl) (fun g1 => ?_)
  have g1' := of_decide_eq_false g1
  have hrd := okRd_mk hx (by omega)
  have := decP_len x hrd
  exact ct hrd (ct hrd (ct (decide_eq_true (by omega)) (ct (eqP_refl _ _ _) (ct (by simp) (ct (by simp) rfl)))))

end Go.Proofs.Ytaafnpmijncpeaa
