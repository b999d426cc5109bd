/-
  The contracts of the functions that draw the laws' own values; and that these are valid.
-/
import Derived.Test.YteogaajjkcfeeaaPure3
namespace Go.Proofs.Yteogaajjkcfeeaa
open Go.Abs

theorem k64 (n : Int) : runF E (callOf L46) 1 64 [.one (.int .i64 n)] [] = some ([.one (.str (gName n))], []) := by
  rw [e64]
  have e : gIndex n 4 = n % 4 := by unfold gIndex; rw [if_neg (by omega)]
  rw [e]
  unfold gName
  have h0 := Int.emod_nonneg n (show (4 : Int) ≠ 0 by omega)
  have h1 := Int.emod_lt_of_pos n (show (0 : Int) < 4 by omega)
  generalize n % 4 = d at *
  have hd : d = 0 ∨ d = 1 ∨ d = 2 ∨ d = 3 := by omega
  rcases hd with rfl | rfl | rfl | rfl <;> rfl

theorem k60 (n : Int) (w : Bool) : runF E (callOf L64) 1 60 [.one (.int .i64 n), .one (.bool w)] [] = some ([.agg [.int .i64 (gEff n w).1, .str (gEff n w).2.1, .str (gEff n w).2.2.1, .int .i64 (gEff n w).2.2.2.1, .str (gEff n w).2.2.2.2]], []) := by
  rw [e60]
  have h := gDigit_range n 4 0 (by omega)
  have h1 := gDigit_range n 16 3 (by omega)
  rw [wrap64 (n := gDigit n 16 3 - 5) (by omega) (by omega)]
  unfold gEff
  generalize gDigit n 4 0 = d at *
  have hd : d = 0 ∨ d = 1 ∨ d = 2 ∨ d = 3 := by omega
  cases w <;> rcases hd with rfl | rfl | rfl | rfl <;> rfl

theorem l47 (n c q : Int) : ∀ (d i : Nat) (acc : List (List Cell)), i + d = (gDigit n 3 9).toNat + 1 → acc.length = i →
    ∃ m, goF E (callOf L60) F47 0 m P47_0 (M47_0 n i 0 0 0 [] c q 0 acc) = some ([.agg [.int .i64 c, .int .i64 q, .int .i64 0, .sl true 23 (gEffsF n d i acc)]], [])
  | 0, i, acc, hi, ha => by
    have h := gDigit_range n 3 9 (by omega)
    refine ⟨1, ?_⟩
    rw [e47_0]
    exact ct rfl (cf (decide_eq_false (by omega)) rfl)
  | d + 1, i, acc, hi, ha => by
    have h := gDigit_range n 3 9 (by omega)
    obtain ⟨m, hm⟩ := l47 n c q d (i + 1) (acc ++ [mkEff (gEff (n % 1099511627776 / (i + 1)) false)]) (by omega) (by simp; omega)
    refine ⟨m + 1, ?_⟩
    have e : gIndex n 1099511627776 = n % 1099511627776 := by unfold gIndex; rw [if_neg (by omega)]
    have h0 := Int.emod_nonneg n (show (1099511627776 : Int) ≠ 0 by omega)
    have h1 := Int.emod_lt_of_pos n (show (0 : Int) < 1099511627776 by omega)
    have h2 : n % 1099511627776 / (i + 1) ≤ n % 1099511627776 := Int.ediv_le_self _ h0
    have h3 : 0 ≤ n % 1099511627776 / (i + 1) := Int.ediv_nonneg h0 (by omega)
    rw [e47_0, e, wrap64 (n := (i : Int) + 1) (by omega) (by omega), Int.tdiv_eq_ediv_of_nonneg h0, wrap64 (n := n % 1099511627776 / (i + 1)) (by omega) (by omega)]
    refine ct rfl (ct (decide_eq_true (by omega)) (ct rfl (cf (decide_eq_false (by omega)) (ct (fits_of (by simp; omega)) ?_))))
    exact hm

theorem k47 (c q n : Int) : ∃ m, runF E (callOf L60) m 47 [.one (.int .i64 c), .one (.int .i64 q), .one (.int .i64 n)] [] = some ([.agg [.int .i64 c, .int .i64 q, .int .i64 (gTag n), .sl true 23 (gEffs n)]], []) := by
  have h := gDigit_range n 3 9 (by omega)
  unfold gTag gEffs
  by_cases h0 : gDigit n 3 8 = 0
  · refine ⟨1, ?_⟩
    rw [e47, if_pos h0, if_pos h0]
    exact ct rfl (ct (by simpa using h0) (ct rfl rfl))
  · obtain ⟨m, hm⟩ := l47 n c q ((gDigit n 3 9).toNat + 1) 0 [] (by omega) rfl
    refine ⟨m + 1, ?_⟩
    rw [e47, if_neg h0, if_neg h0]
    exact ct rfl (cf (by simpa using h0) hm)

theorem in28 (l : List (List Cell)) (hl : l.length < 4611686018427387904) (c : Nat) (hc : c < 3) (R : List AV × List Block) : ∀ (d i : Nat) (q : Int) (acc : List (List Cell)), i + d = min l.length 24 → 0 ≤ q → q ≤ i → acc.length ≤ 24 * c + i →
    (∃ m, goF E (callOf L47) F28 0 m P28_0 (M28_0 l (gUpdsF l c d i q acc) ((c + 1 : Nat) : Int)) = some R) →
    ∃ m, goF E (callOf L47) F28 0 m P28_1 (M28_1 l acc c q i) = some R
  | 0, i, q, acc, hi, h0, h1, h2, hr => by
    obtain ⟨m, hm⟩ := hr
    refine ⟨m + 1, ?_⟩
    rw [e28_1, wrap64 (n := (c : Int) + 1) (by omega) (by omega)]
    by_cases h : i < l.length
    · exact ct (decide_eq_true (by omega)) (cf (decide_eq_false (by omega)) hm)
    · exact cf (decide_eq_false (by omega)) hm
  | d + 1, i, q, acc, hi, h0, h1, h2, hr => by
    have e : gIndex (nr (Abs.rowAt l i) 0) 1099511627776 = nr (Abs.rowAt l i) 0 % 1099511627776 := by unfold gIndex; rw [if_neg (by omega)]
    have g0 := Int.emod_nonneg (nr (Abs.rowAt l i) 0) (show (1099511627776 : Int) ≠ 0 by omega)
    have g1 := Int.emod_lt_of_pos (nr (Abs.rowAt l i) 0) (show (0 : Int) < 1099511627776 by omega)
    unfold gUpdsF at hr
    by_cases hg : gDigit (nr (Abs.rowAt l i) 0) 3 0 = c ∧ q < 8
    · rw [if_pos hg] at hr
      obtain ⟨m, hm⟩ := in28 l hl c hc R d (i + 1) (q + 1) (acc ++ [gUpd (101 + c) (q + 1) (nr (Abs.rowAt l i) 0 % 1099511627776 / 3)]) (by omega) (by omega) (by omega) (by simp; omega) hr
      refine ⟨m + 1, ?_⟩
      rw [e28_1, Int.toNat_natCast, e, Int.tdiv_eq_ediv_of_nonneg g0, wrap64 (n := nr (Abs.rowAt l i) 0 % 1099511627776 / 3) (by omega) (by omega), wrap64 (n := (101 : Int) + c) (by omega) (by omega), wrap64 (n := q + 1) (by omega) (by omega), wrap64 (n := (i : Int) + 1) (by omega) (by omega)]
      exact ct (decide_eq_true (by omega)) (ct (decide_eq_true (by omega)) (ct (inB_nat' (by omega)) (ct rfl (ct (by simpa using hg.1) (ct (decide_eq_true hg.2) (ct (inB_nat' (by omega)) (ct rfl (ct (fits_of (by simp; omega)) hm))))))))
    · rw [if_neg hg] at hr
      obtain ⟨m, hm⟩ := in28 l hl c hc R d (i + 1) q acc (by omega) (by omega) (by omega) (by omega) hr
      refine ⟨m + 1, ?_⟩
      rw [e28_1, Int.toNat_natCast, wrap64 (n := (i : Int) + 1) (by omega) (by omega)]
      refine ct (decide_eq_true (by omega)) (ct (decide_eq_true (by omega)) (ct (inB_nat' (by omega)) (ct rfl ?_)))
      by_cases hd : gDigit (nr (Abs.rowAt l i) 0) 3 0 = c
      · exact ct (by simpa using hd) (cf (decide_eq_false (fun h => hg ⟨hd, h⟩)) hm)
      · exact cf (by simpa using hd) hm

theorem gUpdsF_len (l : List (List Cell)) (c : Nat) : ∀ (d i : Nat) (q : Int) (acc : List (List Cell)), (gUpdsF l c d i q acc).length ≤ acc.length + d
  | 0, _, _, _ => by simp [gUpdsF]
  | d + 1, i, q, acc => by
    unfold gUpdsF
    split
    · have := gUpdsF_len l c d (i + 1) (q + 1) (acc ++ [gUpd (101 + c) (q + 1) (nr (Abs.rowAt l i) 0 % 1099511627776 / 3)])
      simp only [List.length_append, List.length_cons, List.length_nil] at this
      omega
    · have := gUpdsF_len l c d (i + 1) q acc
      omega

theorem k28 (l : List (List Cell)) (hl : l.length < 4611686018427387904) : ∃ m, runF E (callOf L47) m 28 [.one (.sl false 3 l)] [] = some ([.one (.sl true 30 (gUpds l))], []) := by
  have hm := Nat.min_le_right l.length 24
  have b0 := gUpdsF_len l 0 (min l.length 24) 0 0 []
  have b1 := gUpdsF_len l 1 (min l.length 24) 0 0 (gUpdsF l 0 (min l.length 24) 0 0 [])
  have b2 := gUpdsF_len l 2 (min l.length 24) 0 0 (gUpdsF l 1 (min l.length 24) 0 0 (gUpdsF l 0 (min l.length 24) 0 0 []))
  simp only [List.length_nil] at b0
  have r3 : ∃ m, goF E (callOf L47) F28 0 m P28_0 (M28_0 l (gUpds l) ((3 : Nat) : Int)) = some ([.one (.sl true 30 (gUpds l))], []) :=
    ⟨1, by rw [e28_0]; exact cf (by decide) rfl⟩
  have step : ∀ (c : Nat) (acc : List (List Cell)), c < 3 → acc.length ≤ 24 * c → (∃ m, goF E (callOf L47) F28 0 m P28_0 (M28_0 l (gUpdsF l c (min l.length 24) 0 0 acc) ((c + 1 : Nat) : Int)) = some ([.one (.sl true 30 (gUpds l))], [])) →
      ∃ m, goF E (callOf L47) F28 0 m P28_0 (M28_0 l acc c) = some ([.one (.sl true 30 (gUpds l))], []) := by
    intro c acc hc ha hr
    obtain ⟨m, hm⟩ := in28 l hl c hc _ (min l.length 24) 0 0 acc (by omega) (by omega) (by omega) (by omega) hr
    refine ⟨m + 1, ?_⟩
    rw [e28_0]
    exact ct (decide_eq_true (by omega)) hm
  obtain ⟨m, hm⟩ := step 0 [] (by omega) (by simp) (step 1 _ (by omega) (by omega) (step 2 _ (by omega) (by omega) r3))
  exact ⟨m + 1, by rw [e28]; exact hm⟩

/- THAT THE DRAWN UPDATES ARE VALID -/

theorem gName_len (n : Int) : 1 ≤ (gName n).length ∧ (gName n).length ≤ 2 := by
  unfold gName
  (repeat' split) <;> simp

theorem vEff_zero {k : Int} {o f : List UInt8} {n : Int} {s : List UInt8} (hk : 1 ≤ k ∧ k ≤ 5) (ho : 1 ≤ o.length ∧ o.length ≤ 16) (hf : 1 ≤ f.length ∧ f.length ≤ 16) (hs : s.length ≤ 32)
    (h3 : ¬ (k = 3 ∧ (n < -1000000 ∨ 1000000 < n))) (h4 : ¬ ((k = 4 ∨ k = 5) ∧ n ≠ 0)) (h5 : ¬ ((k = 2 ∨ k = 3 ∨ k = 5) ∧ s.length ≠ 0)) : vEff k o f n s = 0 := by
  have := vEff_cases k o f n s
  omega

theorem gEff_ok (n : Int) (w : Bool) : vEffR (mkEff (gEff n w)) = 0 ∧ okI (nr (mkEff (gEff n w)) 3) = true ∧ (nr (mkEff (gEff n w)) 0 = 1 ↔ w = true) := by
  have h1 := gDigit_range n 16 3 (by omega)
  have a := gName_len (gDigit n 4 1)
  have b := gName_len (gDigit n 4 2)
  have c := gName_len (gDigit n 4 5)
  have hv : ∀ p, vEffR (mkEff p) = vEff p.1 p.2.1 p.2.2.1 p.2.2.2.1 p.2.2.2.2 := fun _ => rfl
  have h3 : ∀ p, nr (mkEff p) 3 = p.2.2.2.1 := fun _ => rfl
  have h0 : ∀ p, nr (mkEff p) 0 = p.1 := fun _ => rfl
  rw [hv, h3, h0]
  unfold gEff
  cases w
  all_goals simp only [Bool.false_eq_true, if_false, if_true]
  all_goals (repeat' split)
  all_goals (refine ⟨?_, ?_, by simp⟩)
  all_goals try dsimp only
  all_goals first
    | (unfold okI; simp only [Bool.and_eq_true, decide_eq_true_eq]; omega)
    | exact vEff_zero (by omega) (by omega) (by omega) (by first | omega | simp) (by omega) (by omega) (by first | omega | simp)

def okUpd (r : List Cell) : Prop := vUpd (nr r 0) (nr r 1) (nr r 2) (nl r 3) = 0 ∧ (nl r 3).all (fun e => okI (nr e 3)) = true

theorem vEffs_all {l : List (List Cell)} (h : ∀ r ∈ l, vEffR r = 0) : vEffs l = 0 := by
  induction l with
  | nil => rfl
  | cons r l ih =>
    rw [vEffs, if_neg (by simpa using h r List.mem_cons_self)]
    exact ih fun q hq => h q (List.mem_cons_of_mem _ hq)

theorem gEffsF_ok (n : Int) : ∀ (d i : Nat) (acc : List (List Cell)), (∀ r ∈ acc, vEffR r = 0 ∧ okI (nr r 3) = true ∧ nr r 0 ≠ 1) →
    (∀ r ∈ gEffsF n d i acc, vEffR r = 0 ∧ okI (nr r 3) = true ∧ nr r 0 ≠ 1) ∧ (gEffsF n d i acc).length = acc.length + d
  | 0, _, _, h => ⟨h, rfl⟩
  | d + 1, i, acc, h => by
    have hg := gEff_ok (n % 1099511627776 / (i + 1)) false
    have := gEffsF_ok n d (i + 1) (acc ++ [mkEff (gEff (n % 1099511627776 / (i + 1)) false)]) (fun r hr => by
      rcases List.mem_append.1 hr with hr | hr
      · exact h r hr
      · rw [List.mem_singleton.1 hr]
        exact ⟨hg.1, hg.2.1, fun h1 => by simpa using hg.2.2.1 h1⟩)
    refine ⟨this.1, ?_⟩
    have h2 := this.2
    simp only [List.length_append, List.length_cons, List.length_nil] at h2
    show (gEffsF n d (i + 1) (acc ++ [mkEff (gEff (n % 1099511627776 / (i + 1)) false)])).length = _
    omega

theorem gUpd_ok (c q n : Int) (hc : 101 ≤ c) (hc2 : c < 107) (hq : 1 ≤ q) (hq2 : q ≤ 8) : okUpd (gUpd c q n) := by
  have h16 := gDigit_range n 16 4 (by omega)
  have h9 := gDigit_range n 3 9 (by omega)
  have e0 : nr (gUpd c q n) 0 = c := rfl
  have e1 : nr (gUpd c q n) 1 = q := rfl
  have e2 : nr (gUpd c q n) 2 = gTag n := rfl
  have e3 : nl (gUpd c q n) 3 = gEffs n := rfl
  unfold okUpd
  rw [e0, e1, e2, e3]
  unfold gTag gEffs
  by_cases h : gDigit n 3 8 = 0
  · rw [if_pos h, if_pos h]
    have hg := gEff_ok n true
    have hw := hg.2.2.2 rfl
    refine ⟨?_, by simp [hg.2.1]⟩
    unfold vUpd
    rw [if_neg (by omega), if_neg (by simp), if_neg (by simp), vEffs_all (by simpa using hg.1), if_neg (by simp), if_neg]
    simp [comm, hw]
  · rw [if_neg h, if_neg h]
    have hg := gEffsF_ok n ((gDigit n 3 9).toNat + 1) 0 [] (fun r hr => by cases hr)
    simp only [List.length_nil] at hg
    have hcm : comm (gEffsF n ((gDigit n 3 9).toNat + 1) 0 []) = true := by
      unfold comm
      rw [List.all_eq_true]
      intro r hr
      simpa using (hg.1 r hr).2.2
    refine ⟨?_, List.all_eq_true.2 fun r hr => (hg.1 r hr).2.1⟩
    unfold vUpd
    rw [if_neg (by omega), if_neg (by omega), if_neg (by omega), vEffs_all (fun r hr => (hg.1 r hr).1), if_neg (by simp), if_neg]
    simp [hcm]

theorem gUpdsF_ok (l : List (List Cell)) (c : Nat) (hc : c < 3) : ∀ (d i : Nat) (q : Int) (acc : List (List Cell)), 0 ≤ q → (∀ r ∈ acc, okUpd r) → ∀ r ∈ gUpdsF l c d i q acc, okUpd r
  | 0, _, _, _, _, h => h
  | d + 1, i, q, acc, hq, h => by
    unfold gUpdsF
    split
    · rename_i hg
      refine gUpdsF_ok l c hc d (i + 1) (q + 1) _ (by omega) fun r hr => ?_
      rcases List.mem_append.1 hr with hr | hr
      · exact h r hr
      · rw [List.mem_singleton.1 hr]
        exact gUpd_ok _ _ _ (by omega) (by omega) (by omega) (by omega)
    · exact gUpdsF_ok l c hc d (i + 1) q acc hq h

theorem gUpds_ok (l : List (List Cell)) : (∀ r ∈ gUpds l, okUpd r) ∧ (gUpds l).length ≤ 72 := by
  have hm := Nat.min_le_right l.length 24
  have b0 := gUpdsF_len l 0 (min l.length 24) 0 0 []
  have b1 := gUpdsF_len l 1 (min l.length 24) 0 0 (gUpdsF l 0 (min l.length 24) 0 0 [])
  have b2 := gUpdsF_len l 2 (min l.length 24) 0 0 (gUpdsF l 1 (min l.length 24) 0 0 (gUpdsF l 0 (min l.length 24) 0 0 []))
  simp only [List.length_nil] at b0
  refine ⟨gUpdsF_ok l 2 (by omega) _ 0 0 _ (by omega) (gUpdsF_ok l 1 (by omega) _ 0 0 _ (by omega) (gUpdsF_ok l 0 (by omega) _ 0 0 [] (by omega) (fun r hr => by cases hr))), ?_⟩
  unfold gUpds
  omega

end Go.Proofs.Yteogaajjkcfeeaa
