/-
  The contracts of the functions that draw the laws' own values; and that these are valid.
-/
import Derived.Test.YtaafnpmijncpeaaLawB
namespace Go.Proofs.Ytaafnpmijncpeaa
open Go.Abs

theorem k43 (n k : Int) (hk : k ≤ 4611686018427387904) : runF E (callOf L22) 1 43 [.one (.int .i64 n), .one (.int .i64 k)] [] = some ([.one (.int .i64 (gIndex n k))], []) := by
  rw [e43]
  unfold gIndex
  by_cases h : k < 1
  · rw [if_pos h]
    exact ct (decide_eq_true h) rfl
  · rw [if_neg h]
    refine cf (decide_eq_false h) (cf (decide_eq_false (by omega)) (cf (decide_eq_false (by omega)) ?_))
    have h0 := Int.emod_nonneg n (show k ≠ 0 by omega)
    have h1 := Int.emod_lt_of_pos n (show 0 < k by omega)
    have hn : (k.natAbs : Int) = k := by omega
    have e : Int.tmod n k = n % k ∨ Int.tmod n k = n % k - k := by
      rw [Int.tmod_eq_emod]
      split
      · left; omega
      · right; omega
    refine congrArg (fun z => some ([AV.one (AC.int .i64 z)], ([] : List Block))) ?_
    rcases e with e | e
    · rw [e, wrap64 (by omega) (by omega), Int.tmod_eq_emod_of_nonneg (by omega), Int.add_emod_right]
      exact Int.emod_eq_of_lt h0 h1
    · rw [e, Int.sub_add_cancel, wrap64 (by omega) (by omega), Int.tmod_eq_emod_of_nonneg (by omega)]
      exact Int.emod_eq_of_lt h0 h1

theorem gDigit_range (n b j : Int) (hb : 2 ≤ b) : 0 ≤ gDigit n b j ∧ gDigit n b j < b := by
  unfold gDigit
  exact ⟨Int.emod_nonneg _ (by omega), Int.emod_lt_of_pos _ (by omega)⟩

theorem l36 (n b j : Int) (hb : 2 ≤ b) (hj : j ≤ 9223372036854775807) : ∀ (d i : Nat), i + d = j.toNat →
    ∃ m, goF E (callOf L43) F36 0 m P36_0 (M36_0 b j (n % 1099511627776 / b ^ i) i) = some ([.one (.int .i64 (gDigit n b j))], [])
  | 0, i, hi => by
    refine ⟨1, ?_⟩
    rw [e36_0]
    have hp : (0 : Int) < b ^ i := Int.pow_pos (by omega)
    refine cf (decide_eq_false (by omega)) (cf (decide_eq_false (by omega)) ?_)
    rw [Int.tmod_eq_emod_of_nonneg (Int.ediv_nonneg (Int.emod_nonneg _ (by omega)) (by omega))]
    unfold gDigit
    rw [show j.toNat = i by omega]
  | d + 1, i, hi => by
    obtain ⟨m, hm⟩ := l36 n b j hb hj d (i + 1) (by omega)
    refine ⟨m + 1, ?_⟩
    have hp : (0 : Int) < b ^ i := Int.pow_pos (by omega)
    have h0 : 0 ≤ n % 1099511627776 / b ^ i := Int.ediv_nonneg (Int.emod_nonneg _ (by omega)) (by omega)
    have h1 : n % 1099511627776 / b ^ i < 1099511627776 := Int.lt_of_le_of_lt (Int.ediv_le_self _ (Int.emod_nonneg _ (by omega))) (Int.emod_lt_of_pos _ (by omega))
    have h2 : 0 ≤ n % 1099511627776 / b ^ i / b := Int.ediv_nonneg h0 (by omega)
    have h3 : n % 1099511627776 / b ^ i / b ≤ n % 1099511627776 / b ^ i := Int.ediv_le_self _ h0
    rw [e36_0]
    refine ct (decide_eq_true (by omega)) (cf (decide_eq_false (by omega)) ?_)
    rw [Int.tdiv_eq_ediv_of_nonneg h0, wrap64 (by omega) (by omega), wrap64 (by omega) (by omega), show (i : Int) + 1 = ((i + 1 : Nat) : Int) by omega]
    rw [Int.ediv_ediv, if_neg (fun h => by omega), Int.sub_zero, ← Int.pow_succ]
    exact hm

theorem k36 (n b j : Int) (hb : 2 ≤ b) (hj : j ≤ 9223372036854775807) : ∃ m, runF E (callOf L43) m 36 [.one (.int .i64 n), .one (.int .i64 b), .one (.int .i64 j)] [] = some ([.one (.int .i64 (gDigit n b j))], []) := by
  obtain ⟨m, hm⟩ := l36 n b j hb hj j.toNat 0 (by omega)
  refine ⟨m + 1, ?_⟩
  rw [e36]
  refine ct (decide_eq_true (by omega)) ?_
  simpa [gIndex] using hm

theorem k37 (l : List (List Cell)) (j : Int) (hl : l.length < 4611686018427387904) : runF E (callOf L36) 1 37 [.one (.sl false 3 l), .one (.int .i64 j)] [] = some ([.one (.int .i64 (gAt l j))], []) := by
  rw [e37]
  unfold gAt
  by_cases h : l.length = 0
  · rw [if_pos h]
    exact ct (beq_iff_eq.2 (by omega)) rfl
  · rw [if_neg h]
    have e : gIndex j l.length = j % l.length := by
      unfold gIndex
      rw [if_neg (by omega)]
    have h0 := Int.emod_nonneg j (show (l.length : Int) ≠ 0 by omega)
    have h1 := Int.emod_lt_of_pos j (show (0 : Int) < l.length by omega)
    rw [e]
    exact cf (beq_eq_false_iff_ne.2 (by omega)) (ct (decide_eq_true (by omega)) (ct (inB_of h0 (by omega)) rfl))

theorem k44 (n : Int) : runF E (callOf L37) 1 44 [.one (.int .i64 n)] [] = some ([.agg [.int .i64 (gRule n).1, .int .i64 (gRule n).2.1, .int .i64 (gRule n).2.2]], []) := by
  rw [e44]
  have h := gDigit_range n 8 0 (by omega)
  have h4 := gDigit_range n 4 2 (by omega)
  rw [wrap64 (n := 1 + gDigit n 4 2) (by omega) (by omega)]
  unfold gRule
  generalize gDigit n 8 0 = d at *
  have hd : d = 0 ∨ d = 1 ∨ d = 2 ∨ d = 3 ∨ d = 4 ∨ d = 5 ∨ d = 6 ∨ d = 7 := by omega
  rcases hd with rfl | rfl | rfl | rfl | rfl | rfl | rfl | rfl <;> rfl

theorem k38 (n : Int) : runF E (callOf L44) 1 38 [.one (.int .i64 n)] [] = some ([.agg [.int .i64 (gCh n 0), .int .i64 (gCh n 1), .int .i64 (gCh n 2), .int .i64 (gCh n 3), .int .i64 (gCh n 4), .int .i64 (gCh n 5), .int .i64 (gCh n 6)]], []) := by
  rw [e38]
  have h := gDigit_range n 8 0 (by omega)
  have h1 := gDigit_range n 8 1 (by omega)
  have h2 := gDigit_range n 4 3 (by omega)
  have h3 := gDigit_range n 2 9 (by omega)
  have h4 := gDigit_range n 12 1 (by omega)
  have h5 : IntKind.wrap .i64 (Int.tdiv (gIndex n 1099511627776) 64) = n % 1099511627776 / 64 := by
    have e : gIndex n 1099511627776 = n % 1099511627776 := by unfold gIndex; rw [if_neg (by omega)]
    rw [e, Int.tdiv_eq_ediv_of_nonneg (by omega), wrap64 (by omega) (by omega)]
  rw [wrap64 (n := 1 + gDigit n 8 1) (by omega) (by omega), wrap64 (n := 1 + gDigit n 4 3) (by omega) (by omega), wrap64 (n := 1 + gDigit n 2 9) (by omega) (by omega), wrap64 (n := 1 + gDigit n 12 1) (by omega) (by omega), h5]
  unfold gCh
  generalize gDigit n 8 0 = d at *
  have hd : d = 0 ∨ d = 1 ∨ d = 2 ∨ d = 3 ∨ d = 4 ∨ d = 5 ∨ d = 6 ∨ d = 7 := by omega
  rcases hd with rfl | rfl | rfl | rfl | rfl | rfl | rfl | rfl <;> rfl

theorem in23 (l : List (List Cell)) (hl : l.length < 4611686018427387904) (a : Nat) (ha : a < 3) (K : Int) (hK : K = gDigit (gAt l a) 4 0) (R : List AV × List Block) : ∀ (d i : Nat) (p : Int) (acc : List (List Cell)), i + d = K.toNat → 0 ≤ p → p ≤ 1000 + 2 * i → acc.length ≤ 1000 + i →
    (∃ m, goF E (callOf L38) F23 0 m P23_0 (M23_0 l (gIn l a d i p acc).1 (gIn l a d i p acc).2 ((a + 1 : Nat) : Int)) = some R) →
    ∃ m, goF E (callOf L38) F23 0 m P23_1 (M23_1 l acc p a i) = some R
  | 0, i, p, acc, hi, h0, h1, h2, hr => by
    obtain ⟨m, hm⟩ := hr
    refine ⟨m + 1, ?_⟩
    rw [e23_1, ← hK]
    refine ct (decide_eq_true hl) (ct rfl (cf (decide_eq_false (by omega)) ?_))
    rw [wrap64 (by omega) (by omega)]
    exact hm
  | d + 1, i, p, acc, hi, h0, h1, h2, hr => by
    have hk := gDigit_range (gAt l a) 4 0 (by omega)
    obtain ⟨m, hm⟩ := in23 l hl a ha K hK R d (i + 1) (p + 2) (acc ++ [gProp l a i p]) (by omega) (by omega) (by omega) (by simp; omega) hr
    refine ⟨m + 1, ?_⟩
    rw [e23_1, ← hK]
    refine ct (decide_eq_true hl) (ct rfl (ct (decide_eq_true (by omega)) (ct (decide_eq_true hl) (ct (decide_eq_true hl) (ct (decide_eq_true hl) (ct rfl ?_))))))
    rw [wrap64 (n := p + 1) (by omega) (by omega), wrap64 (n := p + 2) (by omega) (by omega), wrap64 (n := (i : Int) + 1) (by omega) (by omega), wrap64 (n := 201 + (a : Int)) (by omega) (by omega), fits_of (by simp; omega), fits_of (by simp; omega)]
    unfold gProp at hm
    by_cases hd : gDigit (gAt l p) 2 12 = 1
    · refine ct (by simpa using hd) ?_
      by_cases hx : gCh (gAt l (p + 1)) 0 = gCh (gAt l p) 0
      · refine cf (bne_eq_false_iff_eq.2 hx) ?_
        by_cases hy : gCh (gAt l (p + 1)) 1 = gCh (gAt l p) 1
        · rw [if_neg (by simp [hx, hy])] at hm
          exact cf (bne_eq_false_iff_eq.2 hy) (ct rfl hm)
        · rw [if_pos ⟨hd, Or.inr hy⟩] at hm
          exact ct (bne_iff_ne.2 hy) (ct rfl hm)
      · rw [if_pos ⟨hd, Or.inl hx⟩] at hm
        exact ct (bne_iff_ne.2 hx) (ct rfl hm)
    · rw [if_neg (fun h => hd h.1)] at hm
      exact cf (by simpa using hd) (ct rfl hm)

theorem gIn_bound (l : List (List Cell)) (a : Nat) : ∀ (d i : Nat) (p : Int) (acc : List (List Cell)), (gIn l a d i p acc).1.length = acc.length + d ∧ (gIn l a d i p acc).2 = p + 2 * d
  | 0, i, p, acc => by simp [gIn]
  | d + 1, i, p, acc => by
    have := gIn_bound l a d (i + 1) (p + 2) (acc ++ [gProp l a i p])
    simp only [gIn, List.length_append, List.length_cons, List.length_nil] at this ⊢
    omega

theorem out23 (l : List (List Cell)) (hl : l.length < 4611686018427387904) : ∀ (d a : Nat) (p : Int) (acc : List (List Cell)), a + d = 3 → 0 ≤ p → p ≤ 100 + 10 * a → acc.length ≤ 100 + 10 * a →
    ∃ m, goF E (callOf L38) F23 0 m P23_0 (M23_0 l acc p a) = some ([.one (.sl true 32 (gOut l d a p acc))], [])
  | 0, a, p, acc, ha, _, _, _ => by
    refine ⟨1, ?_⟩
    rw [e23_0]
    exact cf (decide_eq_false (by omega)) rfl
  | d + 1, a, p, acc, ha, h0, h1, h2 => by
    have hk := gDigit_range (gAt l a) 4 0 (by omega)
    have hb := gIn_bound l a (gDigit (gAt l a) 4 0).toNat 0 p acc
    have hrec := out23 l hl d (a + 1) (gIn l a (gDigit (gAt l a) 4 0).toNat 0 p acc).2 (gIn l a (gDigit (gAt l a) 4 0).toNat 0 p acc).1 (by omega) (by omega) (by omega) (by omega)
    obtain ⟨m, hm⟩ := in23 l hl a (by omega) _ rfl _ (gDigit (gAt l a) 4 0).toNat 0 p acc (by omega) h0 (by omega) (by omega) hrec
    refine ⟨m + 1, ?_⟩
    rw [e23_0]
    exact ct (decide_eq_true (by omega)) hm

theorem k23 (l : List (List Cell)) (hl : l.length < 4611686018427387904) : ∃ m, runF E (callOf L38) m 23 [.one (.sl false 3 l)] [] = some ([.one (.sl true 32 (gPool l))], []) := by
  obtain ⟨m, hm⟩ := out23 l hl 3 0 3 [] rfl (by omega) (by omega) (by simp)
  exact ⟨m + 1, by rw [e23]; exact hm⟩

/- THAT THE DRAWN PROPOSALS ARE VALID -/

theorem gRule_ok (n : Int) : vRule (gRule n).1 (gRule n).2.1 (gRule n).2.2 = 0 := by
  have h := gDigit_range n 8 0 (by omega)
  have h4 := gDigit_range n 4 2 (by omega)
  have h2 := gDigit_range n 2 3 (by omega)
  unfold gRule
  (repeat' split) <;> simp only [vRule] <;> (rw [if_neg (by omega), if_neg (by omega)])

theorem gCh_ok (n : Int) : vChR (gChR n) = 0 := by
  have h := gDigit_range n 8 0 (by omega)
  have h1 := gDigit_range n 8 1 (by omega)
  have h2 := gDigit_range n 4 3 (by omega)
  have h3 := gDigit_range n 2 9 (by omega)
  have h4 := gDigit_range n 12 1 (by omega)
  have hr := gRule_ok (n % 1099511627776 / 64)
  have hv : ∀ a b c d e f g : Int, vChR [.int .i64 a, .int .i64 b, .int .i64 c, .int .i64 d, .int .i64 e, .int .i64 f, .int .i64 g] = vChange a b c d e f g := fun _ _ _ _ _ _ _ => rfl
  show vChR (if gDigit n 8 0 ≤ 2 then _ else _) = 0
  (repeat' split) <;> rw [hv] <;> unfold vChange <;> (repeat' split) <;> first | rfl | exact hr | omega

def okProp (r : List Cell) : Prop := vProp (nr r 0) (nr r 1) (nl r 2) = 0

theorem gProp_ok (l : List (List Cell)) (a i : Nat) (p : Int) (ha : a < 3) (hi : i < 3) : okProp (gProp l a i p) := by
  have hc := gCh_ok (gAt l p)
  have hx := gCh_ok (gAt l (p + 1))
  unfold okProp gProp
  simp only [nr, nl, cellAt, Cell.toInt, Cell.toRows]
  unfold vProp
  rw [if_neg (by omega)]
  split
  · rename_i h
    rw [if_neg (by simp), if_neg (by simp), vChs, if_neg (by simpa using hc), if_neg (by simp [dup]), vChs, if_neg (by simpa using hx), if_neg, vChs]
    simp only [dup, List.nil_append, List.any_cons, List.any_nil, Bool.or_false, sameCh, Bool.and_eq_true, beq_iff_eq]
    intro hs
    have e0 : gCh (gAt l (p + 1)) 0 = gCh (gAt l p) 0 := hs.1.symm
    have e1 : gCh (gAt l (p + 1)) 1 = gCh (gAt l p) 1 := hs.2.symm
    exact h.2.elim (fun h => h e0) (fun h => h e1)
  · rw [if_neg (by simp), if_neg (by simp), vChs, if_neg (by simpa using hc), if_neg (by simp [dup]), vChs]

theorem gIn_ok (l : List (List Cell)) (a : Nat) (ha : a < 3) : ∀ (d i : Nat) (p : Int) (acc : List (List Cell)), i + d ≤ 3 → (∀ r ∈ acc, okProp r) → ∀ r ∈ (gIn l a d i p acc).1, okProp r
  | 0, _, _, _, _, h => h
  | d + 1, i, p, acc, hi, h => by
    refine gIn_ok l a ha d (i + 1) (p + 2) _ (by omega) fun r hr => ?_
    rcases List.mem_append.1 hr with hr | hr
    · exact h r hr
    · rw [List.mem_singleton.1 hr]
      exact gProp_ok l a i p ha (by omega)

theorem gOut_ok (l : List (List Cell)) : ∀ (d a : Nat) (p : Int) (acc : List (List Cell)), a + d = 3 → (∀ r ∈ acc, okProp r) → acc.length ≤ 3 * a → (∀ r ∈ gOut l d a p acc, okProp r) ∧ (gOut l d a p acc).length ≤ 9
  | 0, _, _, _, ha, h, hl => ⟨h, by simp only [gOut]; omega⟩
  | d + 1, a, p, acc, ha, h, hl => by
    have hk := gDigit_range (gAt l a) 4 0 (by omega)
    have hb := gIn_bound l a (gDigit (gAt l a) 4 0).toNat 0 p acc
    exact gOut_ok l d (a + 1) _ _ (by omega) (gIn_ok l a (by omega) _ 0 p acc (by omega) h) (by omega)

theorem gPool_ok (l : List (List Cell)) : (∀ r ∈ gPool l, okProp r) ∧ (gPool l).length ≤ 9 :=
  gOut_ok l 3 0 3 [] rfl (fun r hr => by cases hr) (by simp)

end Go.Proofs.Ytaafnpmijncpeaa
