/-
  The contracts of the functions that many seats share: bytes, numbers, comparisons.
-/
import Derived.Test.YteogaajjkcfeeaaEq1
import Derived.Test.YteogaajjkcfeeaaBytes
namespace Go.Proofs.Yteogaajjkcfeeaa
open Go.Abs

theorem nat_wrap {i n : Nat} (h : i < n) (hn : n < 4611686018427387904) : IntKind.i64.wrap ((i : Int) + 1) = ((i + 1 : Nat) : Int) := by
  rw [wrap64 (by omega) (by omega)]
  omega

theorem k50 (n : Int) : runF E (callOf L15) 1 50 [.one (.int .i64 n)] [] = some ([.one (.bool false)], []) := by
  rw [e50]; simp

theorem k34 (x y : Int) : runF E (callOf L50) 1 34 [.one (.int .i64 x), .one (.int .i64 y)] [] = some ([.one (.int .i64 (cmpI x y))], []) := by
  rw [e34]
  repeat' (refine cs (fun _ => ?_) (fun _ => ?_))
  all_goals refine congrArg (fun z => some ([AV.one (AC.int .i64 z)], ([] : List Block))) ?_
  all_goals simp only [decide_eq_true_eq, decide_eq_false_iff_not, Bool.true_eq_false, Bool.false_eq_true] at *
  all_goals (unfold cmpI; (repeat' split) <;> omega)

theorem l33 (l : List (List Cell)) (hl : l.length < 4611686018427387904) : ∀ (d i : Nat), i + d = l.length →
    ∃ m, goF E (callOf L34) F33 0 m P33_0 (M33_0 0 l l.length i) = some ([.one (.int .i64 (orI1 (l.drop i)))], [])
  | 0, i, hi => by
    refine ⟨1, ?_⟩
    rw [e33_0]
    refine cf (by simp; omega) ?_
    have : l.drop i = [] := List.drop_eq_nil_of_le (by omega)
    rw [this, orI1]
  | d + 1, i, hi => by
    obtain ⟨m, hm⟩ := l33 l hl d (i + 1) (by omega)
    refine ⟨m + 1, ?_⟩
    rw [e33_0]
    refine ct (by simp; omega) (ct (inB_nat' (by omega)) ?_)
    rw [drop_cons l i (by omega), orI1, Int.toNat_natCast, nat_wrap (n := l.length) (by omega) hl, hm]
    show cond (nr (Abs.rowAt l i) 0 != 0) (some ([AV.one (AC.int .i64 (nr (Abs.rowAt l i) 0))], ([] : List Block))) _ = _
    by_cases h0 : nr (Abs.rowAt l i) 0 = 0
    · rw [if_neg (by simpa using h0)]
      exact cf (by simpa using h0) rfl
    · rw [if_pos h0]
      exact ct (by simpa using h0) rfl

theorem k33 (l : List (List Cell)) (hl : l.length < 4611686018427387904) : ∃ m, runF E (callOf L34) m 33 [.one (.sl false 3 l)] [] = some ([.one (.int .i64 (orI1 l))], []) := by
  obtain ⟨m, hm⟩ := l33 l hl l.length 0 (by omega)
  exact ⟨m + 1, by rw [e33]; exact hm⟩

theorem fits_of {n : Nat} (h : n ≤ 4294967296) : fits n = true := by
  unfold fits LIM
  exact Nat.ble_eq_true_of_le h

theorem okEnc_of {x : List (List Cell)} {v : Int} (h : okEnc x v = true) : x.length ≤ 4000000 ∧ 0 ≤ v ∧ v < 18446744073709551616 := by
  unfold okEnc at h
  simp only [Bool.and_eq_true, decide_eq_true_eq] at h
  exact h

theorem okEnc_mk {x : List (List Cell)} {v : Int} (h1 : x.length ≤ 4000000) (h2 : 0 ≤ v) (h3 : v < 18446744073709551616) : okEnc x v = true := by
  unfold okEnc
  simp only [Bool.and_eq_true, decide_eq_true_eq]
  exact ⟨h1, h2, h3⟩

theorem l36 (x : List (List Cell)) (hx : x.length ≤ 4000000) : ∀ (k : Nat) (v : Int) (acc : List (List Cell)), 0 ≤ v → v < 128 ^ k → v < 18446744073709551616 → 1 ≤ k → acc.length + k ≤ 1000 →
    ∃ m, goF E (callOf L6) F36 0 m P36_0 (M36_0 x v acc) = some ([.one (.sl true 5 (x ++ (acc ++ uencF k v)))], [])
  | 0, _, _, _, _, _, h, _ => by omega
  | k + 1, v, acc, h0, h1, h2, _, hl => by
    by_cases hs : v < 128
    · refine ⟨1, ?_⟩
      rw [e36_0]
      refine cf (decide_eq_false (by omega)) (ct (fits_of (by simp; omega)) (ct (inB_nat' (by omega)) (ct (by simp) (ct (fits_of (by simp [takeN_eq]; omega)) ?_))))
      rw [takeN_eq, Int.toNat_natCast, List.take_length, wrap8 (by omega) (by omega), uencF, if_pos hs]
    · have hk : 1 ≤ k := by
        cases k with
        | zero => simp at h1; omega
        | succ k => omega
      obtain ⟨m, hm⟩ := l36 x hx k (v / 128) (acc ++ [[.int .u8 (v % 128 + 128)]]) (by omega) (by rw [Int.pow_succ] at h1; omega) (by omega) hk (by simp; omega)
      refine ⟨m + 1, ?_⟩
      rw [e36_0]
      refine ct (decide_eq_true (by omega)) (ct (fits_of (by simp; omega)) ?_)
      have e : orI .u8 (IntKind.wrap .u8 v) 128 = v % 128 + 128 := by
        rw [wrapu8_eq, or8 (by omega) (by omega)]
        omega
      rw [e, shr7, hm, uencF, if_neg hs, List.append_assoc]
      rfl

theorem pow10 {v : Int} (h : v < 18446744073709551616) : v < 128 ^ 10 := by
  have e : (128 : Int) ^ 10 = 1180591620717411303424 := by decide
  rw [e]; omega

theorem k36 (x : List (List Cell)) (v : Int) (h : okEnc x v = true) : ∃ m, runF E (callOf L6) m 36 [.one (.sl false 5 x), .one (.int .u64 v)] [] = some ([.one (.sl true 5 (x ++ uenc v))], []) := by
  obtain ⟨h1, h2, h3⟩ := okEnc_of h
  obtain ⟨m, hm⟩ := l36 x h1 10 v [] h2 (pow10 h3) h3 (by omega) (by simp)
  exact ⟨m + 1, by rw [e36]; exact hm⟩

theorem l55 : ∀ (k : Nat) (v : Int) (acc : List (List Cell)), 0 ≤ v → v < 128 ^ k → v < 18446744073709551616 → 1 ≤ k → acc.length + k ≤ 4001000 →
    ∃ m, goF E (callOf L36) F55 0 m P55_0 (M55_0 v acc) = some ([.one (.sl true 5 (acc ++ uencF k v))], [])
  | 0, _, _, _, _, _, h, _ => by omega
  | k + 1, v, acc, h0, h1, h2, _, hl => by
    by_cases hs : v < 128
    · refine ⟨1, ?_⟩
      rw [e55_0]
      refine cf (decide_eq_false (by omega)) (ct (fits_of (by simp; omega)) ?_)
      rw [wrap8 (by omega) (by omega), uencF, if_pos hs]
    · have hk : 1 ≤ k := by
        cases k with
        | zero => simp at h1; omega
        | succ k => omega
      obtain ⟨m, hm⟩ := l55 k (v / 128) (acc ++ [[.int .u8 (v % 128 + 128)]]) (by omega) (by rw [Int.pow_succ] at h1; omega) (by omega) hk (by simp; omega)
      refine ⟨m + 1, ?_⟩
      rw [e55_0]
      refine ct (decide_eq_true (by omega)) (ct (fits_of (by simp; omega)) ?_)
      have e1 : Int.tmod v 128 = v % 128 := Int.tmod_eq_emod_of_nonneg h0
      have e2 : Int.tdiv v 128 = v / 128 := Int.tdiv_eq_ediv_of_nonneg h0
      rw [e1, e2, wrap8 (n := v % 128) (by omega) (by omega), wrap8 (by omega) (by omega), wrapu (by omega) (by omega), hm, uencF, if_neg hs, List.append_assoc]
      rfl

theorem k55 (x : List (List Cell)) (v : Int) (h : okEnc x v = true) : ∃ m, runF E (callOf L36) m 55 [.one (.sl false 5 x), .one (.int .u64 v)] [] = some ([.one (.sl true 5 (x ++ uenc v))], []) := by
  obtain ⟨h1, h2, h3⟩ := okEnc_of h
  obtain ⟨m, hm⟩ := l55 10 v ([] ++ x) h2 (pow10 h3) h3 (by omega) (by simp; omega)
  refine ⟨m + 1, ?_⟩
  rw [e55]
  exact ct (fits_of (by simp; omega)) hm

theorem okRd_of {x : List (List Cell)} (h : okRd x = true) : okB x = true ∧ x.length ≤ 4000000 := by
  unfold okRd okLen at h
  simpa using h

theorem okRd_mk {x : List (List Cell)} (h1 : okB x = true) (h2 : x.length ≤ 4000000) : okRd x = true := by
  unfold okRd okLen
  simp [h1, h2]

theorem okRd_drop {x : List (List Cell)} (h : okRd x = true) (n : Nat) : okRd (x.drop n) = true :=
  okRd_mk (okB_drop (okRd_of h).1 n) (by have := (okRd_of h).2; simp; omega)

/-- the results of a reading as the code hands them back -/
def rd3 (r : Int × Int × Int) : List AV × List Block := ([.one (.int .u64 r.1), .one (.int .i64 r.2.1), .one (.int .i64 r.2.2)], [])

theorem udecF_step (k : Nat) (i : Nat) (acc : Int) (x : List (List Cell)) (hi : i < x.length) : udecF (k + 1) i acc (x.drop i) =
    if k = 0 ∧ 1 < nr (Abs.rowAt x i) 0 then (0, 0, 9)
    else if nr (Abs.rowAt x i) 0 < 128 then (if nr (Abs.rowAt x i) 0 = 0 ∧ 0 < i then (0, 0, 2) else (acc + nr (Abs.rowAt x i) 0 * 128 ^ i, (i : Int) + 1, 0))
    else udecF k ((i + 1 : Nat) : Int) (acc + (nr (Abs.rowAt x i) 0 - 128) * 128 ^ i) (x.drop (i + 1)) := by
  rw [drop_cons x i hi, udecF]
  simp only [Int.toNat_natCast]
  rw [show ((i : Int) + 1) = ((i + 1 : Nat) : Int) by omega]
  simp only [Int.natCast_pos]

theorem l51 (x : List (List Cell)) (hx : okRd x = true) : ∀ (k i : Nat) (acc : Int), i + k = 9 → 1 ≤ i → i ≤ x.length → 0 ≤ acc → acc < 128 ^ i →
    ∃ m, goF E (callOf L26) F51 0 m P51_0 (M51_0 x acc i) = some (rd3 (udecF (k + 1) i acc (x.drop i))) := by
  intro k
  induction k with
  | zero =>
    intro i acc hi h1 hl h0 hacc
    have h9 : i = 9 := by omega
    subst h9
    by_cases hend : 9 = x.length
    · refine ⟨1, ?_⟩
      rw [e51_0]
      refine ct (by simp; omega) ?_
      have : x.drop 9 = [] := List.drop_eq_nil_of_le (by omega)
      rw [this, udecF]
      rfl
    · refine ⟨1, ?_⟩
      obtain ⟨c0, c1⟩ := okB_at (okRd_of hx).1 (i := 9) (by omega)
      rw [e51_0, udecF_step 0 9 acc x (by omega)]
      refine cf (by simp; omega) (ct (inB_nat' (by omega)) (ct (by simp) ?_))
      simp only [Int.toNat_natCast]
      by_cases hc : 1 < nr (Abs.rowAt x 9) 0
      · rw [if_pos ⟨by trivial, hc⟩]
        exact ct (decide_eq_true hc) rfl
      · rw [if_neg (fun h => hc h.2), if_pos (by omega)]
        refine cf (decide_eq_false hc) ?_
        rw [wrap64 (n := 7 * ((9 : Nat) : Int)) (by omega) (by omega), wrap64 (n := ((9 : Nat) : Int) + 1) (by omega) (by omega)]
        refine cf (by decide) ?_
        refine cf (decide_eq_false (by omega)) ?_
        by_cases hz : nr (Abs.rowAt x 9) 0 = 0
        · rw [if_pos ⟨hz, by omega⟩]
          exact ct (by simpa using hz) (ct (by decide) rfl)
        · rw [if_neg (fun h => hz h.1)]
          refine cf (by simpa using hz) ?_
          rw [andNot8 c0 c1, wrapu (by omega) (by omega), show nr (Abs.rowAt x 9) 0 % 128 = nr (Abs.rowAt x 9) 0 by omega]
          have := (step64 (i := 9) h0 hacc c0 (by omega) (by omega) (fun _ => by omega)).1
          rw [show (7 * ((9 : Nat) : Int)) = ((7 * 9 : Nat) : Int) by omega, this]
          rfl
  | succ k ih =>
    intro i acc hi h1 hl h0 hacc
    by_cases hend : i = x.length
    · refine ⟨1, ?_⟩
      rw [e51_0]
      refine ct (by simp; omega) ?_
      have : x.drop i = [] := List.drop_eq_nil_of_le (by omega)
      rw [this, udecF]
      rfl
    · obtain ⟨c0, c1⟩ := okB_at (okRd_of hx).1 (i := i) (by omega)
      have hs := step64 (c := nr (Abs.rowAt x i) 0 % 128) (i := i) h0 hacc (by omega) (by omega) (by omega) (fun h => by omega)
      have hw : IntKind.u64.wrap (andNotI .u8 (nr (Abs.rowAt x i) 0) 128) = nr (Abs.rowAt x i) 0 % 128 := by
        rw [andNot8 c0 c1, wrapu (by omega) (by omega)]
      rw [udecF_step (k + 1) i acc x (by omega), if_neg (by omega)]
      by_cases hc : nr (Abs.rowAt x i) 0 < 128
      · refine ⟨1, ?_⟩
        rw [e51_0]
        refine cf (by simp; omega) (ct (inB_nat' (by omega)) (cf (by simp; omega) ?_))
        rw [wrap64 (n := 7 * (i : Int)) (by omega) (by omega), wrap64 (n := (i : Int) + 1) (by omega) (by omega), Int.toNat_natCast]
        refine cf (decide_eq_false (by omega)) ?_
        refine cf (decide_eq_false (by omega)) ?_
        rw [if_pos hc]
        by_cases hz : nr (Abs.rowAt x i) 0 = 0
        · rw [if_pos ⟨hz, by omega⟩]
          exact ct (by simpa using hz) (ct (decide_eq_true (by omega)) rfl)
        · rw [if_neg (fun h => hz h.1)]
          refine cf (by simpa using hz) ?_
          rw [hw, show (7 * (i : Int)) = ((7 * i : Nat) : Int) by omega, hs.1, show nr (Abs.rowAt x i) 0 % 128 = nr (Abs.rowAt x i) 0 by omega]
          rfl
      · rw [if_neg hc]
        obtain ⟨m, hm⟩ := ih (i + 1) (acc + (nr (Abs.rowAt x i) 0 % 128) * 128 ^ i) (by omega) (by omega) (by omega) hs.2.1 hs.2.2.1
        refine ⟨m + 1, ?_⟩
        rw [e51_0]
        refine cf (by simp; omega) (ct (inB_nat' (by omega)) (cf (by simp; omega) ?_))
        rw [wrap64 (n := 7 * (i : Int)) (by omega) (by omega), wrap64 (n := (i : Int) + 1) (by omega) (by omega), Int.toNat_natCast]
        refine cf (decide_eq_false (by omega)) ?_
        refine ct (decide_eq_true (by omega)) ?_
        rw [hw, show (7 * (i : Int)) = ((7 * i : Nat) : Int) by omega, hs.1, show (i : Int) + 1 = ((i + 1 : Nat) : Int) by omega, hm, show nr (Abs.rowAt x i) 0 % 128 = nr (Abs.rowAt x i) 0 - 128 by omega]

theorem k51 (x : List (List Cell)) (hx : okRd x = true) : ∃ m, runF E (callOf L26) m 51 [.one (.sl false 5 x)] [] = some (rd3 (udec x)) := by
  unfold udec
  by_cases hend : x.length = 0
  · refine ⟨1, ?_⟩
    rw [e51]
    refine ct (by simp; omega) ?_
    rw [List.length_eq_zero_iff.1 hend, udecF]
    rfl
  · obtain ⟨c0, c1⟩ := okB_at (okRd_of hx).1 (i := 0) (by omega)
    have hs := step64 (acc := 0) (c := nr (Abs.rowAt x 0) 0 % 128) (i := 0) (by omega) (by simp) (by omega) (by omega) (by omega) (fun h => by omega)
    have hw : IntKind.u64.wrap (andNotI .u8 (nr (Abs.rowAt x 0) 0) 128) = nr (Abs.rowAt x 0) 0 % 128 := by
      rw [andNot8 c0 c1, wrapu (by omega) (by omega)]
    have hu := udecF_step 9 0 0 x (by omega)
    rw [List.drop_zero] at hu
    simp only [Int.ofNat_zero] at hu
    rw [hu, if_neg (by omega)]
    have hs1 : orI .u64 0 (shlI .u64 (nr (Abs.rowAt x 0) 0 % 128) 0) = nr (Abs.rowAt x 0) 0 % 128 := by
      have := hs.1
      simpa using this
    by_cases hc : nr (Abs.rowAt x 0) 0 < 128
    · refine ⟨1, ?_⟩
      rw [e51, if_pos hc, if_neg (by omega)]
      refine cf (by simp; omega) (ct (inB_of (by omega) (by omega)) ?_)
      refine cf (decide_eq_false (by omega)) ?_
      rw [hw, hs1, show nr (Abs.rowAt x 0) 0 % 128 = nr (Abs.rowAt x 0) 0 by omega]
      generalize nr (Abs.rowAt x 0) 0 = c
      unfold rd3
      cases (c == 0) <;> simp
    · obtain ⟨m, hm⟩ := l51 x hx 8 1 (nr (Abs.rowAt x 0) 0 % 128) (by omega) (by omega) (by omega) (by omega) (by simp; omega)
      refine ⟨m + 1, ?_⟩
      rw [e51, if_neg hc]
      refine cf (by simp; omega) (ct (inB_of (by omega) (by omega)) ?_)
      refine ct (decide_eq_true (by omega)) ?_
      rw [hw, hs1]
      refine Eq.trans hm ?_
      congr 2
      rw [show nr (Abs.rowAt x 0) 0 % 128 = 0 + (nr (Abs.rowAt x 0) 0 - 128) * 128 ^ 0 by simp; omega]

theorem l63 (x : List (List Cell)) (hx : okRd x = true) : ∀ (k i : Nat) (acc : Int), i + k = 9 → i ≤ x.length → 0 ≤ acc → acc < 128 ^ i →
    ∃ m, goF E (callOf L51) F63 0 m P63_0 (M63_0 x acc i) = some (rd3 (udecF (k + 1) i acc (x.drop i))) := by
  intro k
  induction k with
  | zero =>
    intro i acc hi hl h0 hacc
    have h9 : i = 9 := by omega
    subst h9
    refine ⟨1, ?_⟩
    rw [e63_0]
    refine ct (by simp) ?_
    by_cases hend : 9 = x.length
    · refine ct (by simp; omega) ?_
      have : x.drop 9 = [] := List.drop_eq_nil_of_le (by omega)
      rw [this, udecF]
      rfl
    · obtain ⟨c0, c1⟩ := okB_at (okRd_of hx).1 (i := 9) (by omega)
      rw [udecF_step 0 9 acc x (by omega)]
      refine cf (by simp; omega) (ct (by simp) (ct (inB_nat' (by omega)) ?_))
      simp only [Int.toNat_natCast]
      by_cases hc : 1 < nr (Abs.rowAt x 9) 0
      · rw [if_pos ⟨by trivial, hc⟩]
        exact ct (decide_eq_true hc) rfl
      · rw [if_neg (fun h => hc h.2), if_pos (by omega)]
        refine cf (decide_eq_false hc) ?_
        rw [inB_nat' (by omega : 9 < x.length), wrap64 (n := 7 * ((9 : Nat) : Int)) (by omega) (by omega), wrap64 (n := ((9 : Nat) : Int) + 1) (by omega) (by omega), wrapu (n := 7 * ((9 : Nat) : Int)) (by omega) (by omega)]
        refine ct rfl (cf (by decide) (ct rfl ?_))
        refine ct (decide_eq_true (by omega)) (ct rfl ?_)
        by_cases hz : nr (Abs.rowAt x 9) 0 = 0
        · rw [if_pos ⟨hz, by omega⟩]
          exact ct (by simpa using hz) (ct (by decide) rfl)
        · rw [if_neg (fun h => hz h.1)]
          refine cf (by simpa using hz) ?_
          rw [Int.tmod_eq_emod_of_nonneg c0, wrapu (n := nr (Abs.rowAt x 9) 0 % 128) (by omega) (by omega), show nr (Abs.rowAt x 9) 0 % 128 = nr (Abs.rowAt x 9) 0 by omega]
          have := (step64 (i := 9) h0 hacc c0 (by omega) (by omega) (fun _ => by omega)).1
          rw [show (7 * ((9 : Nat) : Int)) = ((7 * 9 : Nat) : Int) by omega, this]
          rfl
  | succ k ih =>
    intro i acc hi hl h0 hacc
    by_cases hend : i = x.length
    · refine ⟨1, ?_⟩
      rw [e63_0]
      refine ct (decide_eq_true (by omega)) (ct (by simp; omega) ?_)
      have : x.drop i = [] := List.drop_eq_nil_of_le (by omega)
      rw [this, udecF]
      rfl
    · obtain ⟨c0, c1⟩ := okB_at (okRd_of hx).1 (i := i) (by omega)
      have hs := step64 (c := nr (Abs.rowAt x i) 0 % 128) (i := i) h0 hacc (by omega) (by omega) (by omega) (fun h => by omega)
      have hw : IntKind.u64.wrap (Int.tmod (nr (Abs.rowAt x i) 0) 128) = nr (Abs.rowAt x i) 0 % 128 := by
        rw [Int.tmod_eq_emod_of_nonneg c0, wrapu (by omega) (by omega)]
      rw [udecF_step (k + 1) i acc x (by omega), if_neg (by omega)]
      by_cases hc : nr (Abs.rowAt x i) 0 < 128
      · refine ⟨1, ?_⟩
        rw [e63_0]
        rw [inB_nat' (by omega : i < x.length), wrap64 (n := 7 * (i : Int)) (by omega) (by omega), wrap64 (n := (i : Int) + 1) (by omega) (by omega), wrapu (n := 7 * (i : Int)) (by omega) (by omega), Int.toNat_natCast]
        refine ct (decide_eq_true (by omega)) (cf (by simp; omega) (cf (by simp; omega) (ct rfl (cf (decide_eq_false (by omega)) (ct rfl ?_)))))
        refine ct (decide_eq_true hc) (ct rfl ?_)
        rw [if_pos hc, hw, show (7 * (i : Int)) = ((7 * i : Nat) : Int) by omega, hs.1, show nr (Abs.rowAt x i) 0 % 128 = nr (Abs.rowAt x i) 0 by omega]
        by_cases hz : nr (Abs.rowAt x i) 0 = 0
        · refine ct (by simpa using hz) ?_
          by_cases hp : 0 < i
          · rw [if_pos ⟨hz, hp⟩]
            exact ct (decide_eq_true (by omega)) rfl
          · rw [if_neg (fun h => hp h.2)]
            exact cf (decide_eq_false (by omega)) rfl
        · rw [if_neg (fun h => hz h.1)]
          exact cf (by simpa using hz) rfl
      · rw [if_neg hc]
        obtain ⟨m, hm⟩ := ih (i + 1) (acc + (nr (Abs.rowAt x i) 0 % 128) * 128 ^ i) (by omega) (by omega) hs.2.1 hs.2.2.1
        refine ⟨m + 1, ?_⟩
        rw [e63_0]
        rw [inB_nat' (by omega : i < x.length), wrap64 (n := 7 * (i : Int)) (by omega) (by omega), wrap64 (n := (i : Int) + 1) (by omega) (by omega), wrapu (n := 7 * (i : Int)) (by omega) (by omega), Int.toNat_natCast]
        refine ct (decide_eq_true (by omega)) (cf (by simp; omega) (cf (by simp; omega) (ct rfl (cf (decide_eq_false (by omega)) (ct rfl ?_)))))
        refine cf (decide_eq_false hc) ?_
        rw [hw, show (7 * (i : Int)) = ((7 * i : Nat) : Int) by omega, hs.1, show (i : Int) + 1 = ((i + 1 : Nat) : Int) by omega, hm, show nr (Abs.rowAt x i) 0 % 128 = nr (Abs.rowAt x i) 0 - 128 by omega]

theorem k63 (x : List (List Cell)) (hx : okRd x = true) : ∃ m, runF E (callOf L51) m 63 [.one (.sl false 5 x)] [] = some (rd3 (udec x)) := by
  obtain ⟨m, hm⟩ := l63 x hx 9 0 0 (by omega) (by omega) (by omega) (by simp)
  exact ⟨m + 1, by rw [e63]; exact hm⟩

theorem udecF_bound : ∀ (k : Nat) (i acc : Int) (l : List (List Cell)), 0 ≤ acc → 0 ≤ i → (∀ r ∈ l, 0 ≤ nr r 0) → (udecF k i acc l).2.2 = 0 → i < (udecF k i acc l).2.1 ∧ (udecF k i acc l).2.1 ≤ i + l.length ∧ 0 ≤ (udecF k i acc l).1
  | 0, _, _, _, _, _, _, h => by simp [udecF] at h
  | k + 1, _, _, [], _, _, _, h => by simp [udecF] at h
  | k + 1, i, acc, r :: rs, ha, hi, hl, h => by
    have h0 := hl r (List.mem_cons_self)
    have hp : (0 : Int) < 128 ^ i.toNat := Int.pow_pos (by decide)
    unfold udecF at h ⊢
    split
    · rw [if_pos (by assumption)] at h; simp at h
    · rw [if_neg (by assumption)] at h
      split
      · rw [if_pos (by assumption)] at h
        split
        · rw [if_pos (by assumption)] at h; simp at h
        · have := Int.mul_nonneg h0 (Int.le_of_lt hp)
          simp only [List.length_cons]
          omega
      · rw [if_neg (by assumption)] at h
        have := Int.mul_nonneg (show 0 ≤ nr r 0 - 128 by omega) (Int.le_of_lt hp)
        have := udecF_bound k (i + 1) (acc + (nr r 0 - 128) * 128 ^ i.toNat) rs (by omega) (by omega) (fun r hr => hl r (List.mem_cons_of_mem _ hr)) h
        simp only [List.length_cons]
        omega

theorem okB_nonneg {x : List (List Cell)} (h : okB x = true) : ∀ r ∈ x, 0 ≤ nr r 0 := fun r hr => (isByte_nr (List.all_eq_true.1 h r hr)).1

theorem udec_bound {x : List (List Cell)} (hx : okB x = true) (h : (udec x).2.2 = 0) : 0 < (udec x).2.1 ∧ (udec x).2.1 ≤ x.length ∧ 0 ≤ (udec x).1 := by
  have := udecF_bound 10 0 0 x (by omega) (by omega) (okB_nonneg hx) h
  unfold udec
  omega

theorem rnum2_bound {x : List (List Cell)} (hx : okB x = true) (h : (rnum2 x).2.2 = 0) : 0 < (rnum2 x).2.1 ∧ (rnum2 x).2.1 ≤ x.length ∧ 0 ≤ (rnum2 x).1 ∧ (rnum2 x).1 ≤ 2147483647 := by
  unfold rnum2 at h ⊢
  split
  · rw [if_pos (by assumption)] at h
    simp at h
    omega
  · rename_i h1
    rw [if_neg h1] at h
    split
    · rw [if_pos (by assumption)] at h; simp at h
    · have := udec_bound hx (by omega)
      omega

theorem k57 (x : List (List Cell)) (hx : okRd x = true) : runF E (callOf L58) 1 57 [.one (.sl false 5 x)] [] = some ([.one (.int .i64 (rnum2 x).1), .one (.int .i64 (rnum2 x).2.1), .one (.int .i64 (rnum2 x).2.2)], []) := by
  rw [e57]
  refine ct hx ?_
  unfold rnum2
  by_cases h : (udec x).2.2 = 0
  · refine cf (by simpa using h) ?_
    rw [if_neg (by simpa using h)]
    by_cases h1 : 2147483647 < (udec x).1
    · rw [if_pos h1]
      exact ct (decide_eq_true h1) rfl
    · rw [if_neg h1]
      refine cf (decide_eq_false h1) ?_
      have := udec_bound (okRd_of hx).1 h
      rw [wrap64 (by omega) (by omega), h]
  · rw [if_pos h]
    exact ct (by simpa using h) rfl

theorem okAt_of {x : List (List Cell)} {o : Int} (h : okAt x o = true) : okRd x = true ∧ 0 ≤ o ∧ o ≤ x.length := by
  unfold okAt at h
  unfold okRd
  simp only [Bool.and_eq_true, decide_eq_true_eq] at h ⊢
  exact ⟨⟨h.1, h.2.1⟩, h.2.2⟩

theorem okAt_mk {x : List (List Cell)} {o : Int} (h : okRd x = true) (h0 : 0 ≤ o) (h1 : o ≤ x.length) : okAt x o = true := by
  unfold okAt
  unfold okRd at h
  simp only [Bool.and_eq_true, decide_eq_true_eq] at h ⊢
  exact ⟨h.1, h.2, h0, h1⟩

/-- the reader's state behind a number -/
theorem rnum_at {b : List (List Cell)} {o e : Int} (h : okAt b o = true) : okAt b (rnum b o e).2.1 = true := by
  obtain ⟨h1, h2, h3⟩ := okAt_of h
  unfold rnum
  split
  · exact h
  · split
    · exact h
    · rename_i h4
      have := rnum2_bound (okB_drop (okRd_of h1).1 o.toNat) (by simpa using h4)
      rw [List.length_drop] at this
      exact okAt_mk h1 (by simp only; omega) (by simp only; omega)

theorem l44 (x : List (List Cell)) (hx : okRd x = true) (c : Int) (hc : c ≤ 1000) : ∀ (d i : Nat) (o : Int) (acc : List (List Cell)), i + d = c.toNat → 0 ≤ o → o ≤ x.length → acc.length = i →
    ∃ m, goF E (callOf L25) F44 0 m P44_0 (M44_0 x c acc o i) = some ([.one (.sl true 3 (rreadF x d o acc).1), .one (.int .i64 (rreadF x d o acc).2.1), .one (.int .i64 (rreadF x d o acc).2.2)], []) := by
  intro d
  induction d with
  | zero =>
    intro i o acc hi h0 h1 ha
    refine ⟨1, ?_⟩
    rw [e44_0]
    exact cf (decide_eq_false (by omega)) rfl
  | succ d ih =>
    intro i o acc hi h0 h1 ha
    have h4 := okRd_drop hx o.toNat
    have hl := (okRd_of hx).2
    by_cases he : (rnum2 (x.drop o.toNat)).2.2 = 0
    · have hb := rnum2_bound (okRd_of h4).1 he
      rw [List.length_drop] at hb
      obtain ⟨m, hm⟩ := ih (i + 1) (o + (rnum2 (x.drop o.toNat)).2.1) (acc ++ [[.int .i64 (rnum2 (x.drop o.toNat)).1]]) (by omega) (by omega) (by omega) (by simp; omega)
      refine ⟨m + 1, ?_⟩
      rw [e44_0, dropN_eq]
      refine ct (decide_eq_true (by omega)) (ct (inB_of h0 (by omega)) (ct h4 (cf (by simpa using he) (ct (fits_of (by simp; omega)) ?_))))
      rw [wrap64 (by omega) (by omega), wrap64 (by omega) (by omega), show (i : Int) + 1 = ((i + 1 : Nat) : Int) by omega, hm, rreadF, if_neg (by simpa using he)]
    · refine ⟨1, ?_⟩
      rw [e44_0, dropN_eq]
      refine ct (decide_eq_true (by omega)) (ct (inB_of h0 (by omega)) (ct h4 (ct (by simpa using he) ?_)))
      rw [rreadF, if_pos he]

theorem k44 (x : List (List Cell)) (c : Int) (h : (okRd x && decide (c ≤ 1000)) = true) : ∃ m, runF E (callOf L25) m 44 [.one (.sl false 5 x), .one (.int .i64 c)] [] = some ([.one (.sl true 3 (rread x c).1), .one (.int .i64 (rread x c).2.1), .one (.int .i64 (rread x c).2.2)], []) := by
  simp only [Bool.and_eq_true, decide_eq_true_eq] at h
  obtain ⟨m, hm⟩ := l44 x h.1 c h.2 c.toNat 0 0 [] (by omega) (by omega) (by omega) rfl
  exact ⟨m + 1, by rw [e44]; exact hm⟩

theorem encL_app : ∀ (x y : List (List Cell)), encL (x ++ y) = encL x ++ encL y
  | [], y => rfl
  | r :: x, y => by rw [List.cons_append, encL, encL, encL_app x y, List.append_assoc]

theorem encL_len : ∀ (x : List (List Cell)), (encL x).length ≤ 10 * x.length
  | [] => by simp [encL]
  | r :: x => by
    have := encL_len x
    have := uenc_len (IntKind.wrap .u64 (nr r 0))
    simp only [encL, List.length_append, List.length_cons]
    omega

theorem encL_okB : ∀ (x : List (List Cell)), okB (encL x) = true
  | [] => rfl
  | r :: x => by
    rw [encL]
    exact okB_app (uencF_okB 10 _ (wrapu_range _).1) (encL_okB x)

theorem okNums_of {x l : List (List Cell)} (h : okNums x l = true) : x.length ≤ 2000000 ∧ l.length ≤ 10000 := by
  unfold okNums at h
  simpa using h

theorem okNums_mk {x l : List (List Cell)} (h1 : x.length ≤ 2000000) (h2 : l.length ≤ 10000) : okNums x l = true := by
  unfold okNums
  simp [h1, h2]

theorem l41 (l : List (List Cell)) (hl : l.length ≤ 10000) : ∀ (d i : Nat) (x : List (List Cell)), i + d = l.length → x.length ≤ 2000000 + 10 * i →
    ∃ m, goF E (callOf L24) F41 0 m P41_0 (M41_0 x l i) = some ([.one (.sl false 5 (x ++ encL (l.drop i)))], [])
  | 0, i, x, hi, hx => by
    refine ⟨1, ?_⟩
    rw [e41_0]
    have : l.drop i = [] := List.drop_eq_nil_of_le (by omega)
    refine cf (decide_eq_false (by omega)) ?_
    rw [this, encL, List.append_nil]
  | d + 1, i, x, hi, hx => by
    have hu := uenc_len (IntKind.wrap .u64 (nr (Abs.rowAt l i) 0))
    obtain ⟨m, hm⟩ := l41 l hl d (i + 1) (x ++ uenc (IntKind.wrap .u64 (nr (Abs.rowAt l i) 0))) (by omega) (by simp; omega)
    refine ⟨m + 1, ?_⟩
    rw [e41_0]
    have hr := wrapu_range (nr (Abs.rowAt l i) 0)
    rw [Int.toNat_natCast]
    refine ct (decide_eq_true (by omega)) (ct (inB_nat' (by omega)) (ct (okEnc_mk (by omega) hr.1 hr.2) ?_))
    rw [nat_wrap (n := l.length) (by omega) (by omega), hm, drop_cons l i (by omega), encL, List.append_assoc]

theorem k41 (x l : List (List Cell)) (h : okNums x l = true) : ∃ m, runF E (callOf L24) m 41 [.one (.sl false 5 x), .one (.sl false 3 l)] [] = some ([.one (.sl false 5 (x ++ encL l))], []) := by
  obtain ⟨h1, h2⟩ := okNums_of h
  obtain ⟨m, hm⟩ := l41 l h2 l.length 0 x (by omega) (by omega)
  exact ⟨m + 1, by rw [e41]; exact hm⟩

def chain (x : List (List Cell)) : Nat → Int → Int → List Int × Int × Int
  | 0, o, e => ([], o, e)
  | k + 1, o, e => ((rnum x o e).1 :: (chain x k (rnum x o e).2.1 (rnum x o e).2.2).1, (chain x k (rnum x o e).2.1 (rnum x o e).2.2).2)

theorem chain_err (x : List (List Cell)) (o e : Int) (he : e ≠ 0) : ∀ k, (chain x k o e).2 = (o, e)
  | 0 => rfl
  | k + 1 => by
    have : rnum x o e = (0, o, e) := by unfold rnum; rw [if_pos he]
    simp only [chain, this]
    exact chain_err x o e he k

theorem chain_rd (x : List (List Cell)) (hx : okRd x = true) (o : Int) (ho : 0 ≤ o) : ∀ (k : Nat) (a : Int) (acc : List (List Cell)), 0 ≤ a → o + a ≤ x.length →
    (rreadF (x.drop o.toNat) k a acc).2.2 = (chain x k (o + a) 0).2.2 ∧
    ((rreadF (x.drop o.toNat) k a acc).2.2 = 0 → (chain x k (o + a) 0).2.1 = o + (rreadF (x.drop o.toNat) k a acc).2.1 ∧ (rreadF (x.drop o.toNat) k a acc).1 = acc ++ (chain x k (o + a) 0).1.map fun n => [Cell.int .i64 n])
  | 0, a, acc, _, _ => by simp [rreadF, chain]
  | k + 1, a, acc, ha, hl => by
    have hd : (x.drop o.toNat).drop a.toNat = x.drop (o + a).toNat := by
      rw [List.drop_drop]
      congr 1
      omega
    simp only [rreadF, chain, hd]
    by_cases he : (rnum2 (x.drop (o + a).toNat)).2.2 = 0
    · have hr : rnum x (o + a) 0 = ((rnum2 (x.drop (o + a).toNat)).1, o + a + (rnum2 (x.drop (o + a).toNat)).2.1, 0) := by
        unfold rnum
        rw [if_neg (by simp), if_neg (by simpa using he)]
      have hb := rnum2_bound (okRd_of (okRd_drop hx (o + a).toNat)).1 he
      rw [List.length_drop] at hb
      rw [if_neg (by simpa using he), hr]
      have := chain_rd x hx o ho k (a + (rnum2 (x.drop (o + a).toNat)).2.1) (acc ++ [[.int .i64 (rnum2 (x.drop (o + a).toNat)).1]]) (by omega) (by omega)
      rw [← Int.add_assoc] at this
      refine ⟨this.1, fun h => ⟨(this.2 h).1, ?_⟩⟩
      rw [(this.2 h).2]
      simp
    · have hr : rnum x (o + a) 0 = (0, o + a, (rnum2 (x.drop (o + a).toNat)).2.2) := by
        unfold rnum
        rw [if_neg (by simp), if_pos he]
      rw [if_pos he, hr]
      simp only
      rw [chain_err x (o + a) _ he k]
      exact ⟨rfl, fun h => absurd h he⟩

theorem chain_read {x : List (List Cell)} (hx : okRd x = true) {o : Int} (ho : 0 ≤ o) (hl : o ≤ x.length) (c : Int) :
    (rread (x.drop o.toNat) c).2.2 = (chain x c.toNat o 0).2.2 ∧
    ((rread (x.drop o.toNat) c).2.2 = 0 → (chain x c.toNat o 0).2.1 = o + (rread (x.drop o.toNat) c).2.1 ∧ (rread (x.drop o.toNat) c).1 = (chain x c.toNat o 0).1.map fun n => [Cell.int .i64 n]) := by
  have := chain_rd x hx o ho c.toNat 0 [] (by omega) (by omega)
  rw [Int.add_zero] at this
  exact this

theorem rreadF_bound (x : List (List Cell)) (hx : okRd x = true) : ∀ (k : Nat) (a : Int) (acc : List (List Cell)), 0 ≤ a → a ≤ x.length → (rreadF x k a acc).2.2 = 0 →
    a ≤ (rreadF x k a acc).2.1 ∧ (rreadF x k a acc).2.1 ≤ x.length ∧ (rreadF x k a acc).1.length = acc.length + k ∧ (1 ≤ k → a < (rreadF x k a acc).2.1)
  | 0, a, acc, ha, hl, _ => ⟨Int.le_refl _, hl, rfl, fun h => by omega⟩
  | k + 1, a, acc, ha, hl, h => by
    simp only [rreadF] at h ⊢
    by_cases he : (rnum2 (x.drop a.toNat)).2.2 = 0
    · have hb := rnum2_bound (okRd_of (okRd_drop hx a.toNat)).1 he
      rw [List.length_drop] at hb
      rw [if_neg (by simpa using he)] at h ⊢
      have := rreadF_bound x hx k _ (acc ++ [[.int .i64 (rnum2 (x.drop a.toNat)).1]]) (by omega) (by omega) h
      simp only [List.length_append, List.length_cons, List.length_nil] at this
      exact ⟨by omega, this.2.1, by omega, fun _ => by omega⟩
    · rw [if_pos he] at h
      exact absurd h he

theorem rread_bound {x : List (List Cell)} (hx : okRd x = true) {c : Int} (h : (rread x c).2.2 = 0) : 0 ≤ (rread x c).2.1 ∧ (rread x c).2.1 ≤ x.length ∧ (rread x c).1.length = c.toNat ∧ (1 ≤ c.toNat → 0 < (rread x c).2.1) := by
  have := rreadF_bound x hx c.toNat 0 [] (by omega) (by omega) h
  rw [List.length_nil, Nat.zero_add] at this
  exact this

/-- numbers that the reader takes -/
def small (l : List (List Cell)) : Prop := ∀ r ∈ l, 0 ≤ nr r 0 ∧ nr r 0 ≤ 2147483647

def reNum (r : List Cell) : List Cell := [.int .i64 (nr r 0)]

theorem rnum2_enc {v : Int} (h0 : 0 ≤ v) (h1 : v ≤ 2147483647) (rest : List (List Cell)) : rnum2 (uenc (IntKind.wrap .u64 v) ++ rest) = (v, ((uenc (IntKind.wrap .u64 v)).length : Int), 0) := by
  have h := udec_uenc (v := IntKind.wrap .u64 v) (wrapu_range v).1 (wrapu_range v).2 rest
  unfold rnum2
  rw [h, if_neg (by simp), wrapu h0 (by omega)]
  simp only
  rw [if_neg (by omega)]

theorem rread_enc (rest : List (List Cell)) : ∀ (l pre acc : List (List Cell)), small l →
    rreadF (pre ++ (encL l ++ rest)) l.length pre.length acc = (acc ++ l.map reNum, ((pre.length + (encL l).length : Nat) : Int), 0)
  | [], pre, acc, _ => by simp [rreadF, encL]
  | r :: l, pre, acc, h => by
    have hr := h r (List.mem_cons_self)
    have ih := rread_enc rest l (pre ++ uenc (IntKind.wrap .u64 (nr r 0))) (acc ++ [reNum r]) (fun q hq => h q (List.mem_cons_of_mem _ hq))
    have e : (pre ++ (encL (r :: l) ++ rest)).drop ((pre.length : Nat) : Int).toNat = uenc (IntKind.wrap .u64 (nr r 0)) ++ (encL l ++ rest) := by
      rw [Int.toNat_natCast, List.drop_left, encL, List.append_assoc]
    rw [List.length_cons, rreadF, e, rnum2_enc hr.1 hr.2, if_neg (by simp)]
    simp only
    have e2 : pre ++ (encL (r :: l) ++ rest) = (pre ++ uenc (IntKind.wrap .u64 (nr r 0))) ++ (encL l ++ rest) := by
      rw [encL]; simp only [List.append_assoc]
    rw [e2, ← Int.natCast_add, ← List.length_append]
    refine ih.trans ?_
    simp only [List.map_cons, List.append_assoc, List.length_append, encL, List.cons_append, List.nil_append]
    congr 3
    omega

theorem small_app {x y : List (List Cell)} : small (x ++ y) ↔ small x ∧ small y := by
  unfold small
  simp only [List.mem_append]
  exact ⟨fun h => ⟨fun r hr => h r (Or.inl hr), fun r hr => h r (Or.inr hr)⟩, fun h r hr => hr.elim (h.1 r) (h.2 r)⟩

theorem k48 (n k : Int) (hk : k ≤ 4611686018427387904) : runF E (callOf L27) 1 48 [.one (.int .i64 n), .one (.int .i64 k)] [] = some ([.one (.int .i64 (gIndex n k))], []) := by
  rw [e48]
  unfold gIndex
  by_cases h : k < 1
  · rw [if_pos h]
    exact ct (decide_eq_true h) rfl
  · rw [if_neg h]
    refine cf (decide_eq_false h) (cf (decide_eq_false (by omega)) (cf (decide_eq_false (by omega)) ?_))
    have h0 := Int.emod_nonneg n (show k ≠ 0 by omega)
    have h1 := Int.emod_lt_of_pos n (show 0 < k by omega)
    have hn : (k.natAbs : Int) = k := by omega
    have e : Int.tmod n k = n % k ∨ Int.tmod n k = n % k - k := by
      rw [Int.tmod_eq_emod]
      split
      · left; omega
      · right; omega
    refine congrArg (fun z => some ([AV.one (AC.int .i64 z)], ([] : List Block))) ?_
    rcases e with e | e
    · rw [e, wrap64 (by omega) (by omega), Int.tmod_eq_emod_of_nonneg (by omega), Int.add_emod_right]
      exact Int.emod_eq_of_lt h0 h1
    · rw [e, Int.sub_add_cancel, wrap64 (by omega) (by omega), Int.tmod_eq_emod_of_nonneg (by omega)]
      exact Int.emod_eq_of_lt h0 h1

theorem gDigit_range (n b j : Int) (hb : 2 ≤ b) : 0 ≤ gDigit n b j ∧ gDigit n b j < b := by
  unfold gDigit
  exact ⟨Int.emod_nonneg _ (by omega), Int.emod_lt_of_pos _ (by omega)⟩

theorem l46 (n b j : Int) (hb : 2 ≤ b) (hj : j ≤ 9223372036854775807) : ∀ (d i : Nat), i + d = j.toNat →
    ∃ m, goF E (callOf L48) F46 0 m P46_0 (M46_0 b j (n % 1099511627776 / b ^ i) i) = some ([.one (.int .i64 (gDigit n b j))], [])
  | 0, i, hi => by
    refine ⟨1, ?_⟩
    rw [e46_0]
    have hp : (0 : Int) < b ^ i := Int.pow_pos (by omega)
    refine cf (decide_eq_false (by omega)) (cf (decide_eq_false (by omega)) ?_)
    rw [Int.tmod_eq_emod_of_nonneg (Int.ediv_nonneg (Int.emod_nonneg _ (by omega)) (by omega))]
    unfold gDigit
    rw [show j.toNat = i by omega]
  | d + 1, i, hi => by
    obtain ⟨m, hm⟩ := l46 n b j hb hj d (i + 1) (by omega)
    refine ⟨m + 1, ?_⟩
    have hp : (0 : Int) < b ^ i := Int.pow_pos (by omega)
    have h0 : 0 ≤ n % 1099511627776 / b ^ i := Int.ediv_nonneg (Int.emod_nonneg _ (by omega)) (by omega)
    have h1 : n % 1099511627776 / b ^ i < 1099511627776 := Int.lt_of_le_of_lt (Int.ediv_le_self _ (Int.emod_nonneg _ (by omega))) (Int.emod_lt_of_pos _ (by omega))
    have h2 : 0 ≤ n % 1099511627776 / b ^ i / b := Int.ediv_nonneg h0 (by omega)
    have h3 : n % 1099511627776 / b ^ i / b ≤ n % 1099511627776 / b ^ i := Int.ediv_le_self _ h0
    rw [e46_0]
    refine ct (decide_eq_true (by omega)) (cf (decide_eq_false (by omega)) ?_)
    rw [Int.tdiv_eq_ediv_of_nonneg h0, wrap64 (by omega) (by omega), wrap64 (by omega) (by omega), show (i : Int) + 1 = ((i + 1 : Nat) : Int) by omega]
    rw [Int.ediv_ediv, if_neg (fun h => by omega), Int.sub_zero, ← Int.pow_succ]
    exact hm

theorem k46 (n b j : Int) (hb : 2 ≤ b) (hj : j ≤ 9223372036854775807) : ∃ m, runF E (callOf L48) m 46 [.one (.int .i64 n), .one (.int .i64 b), .one (.int .i64 j)] [] = some ([.one (.int .i64 (gDigit n b j))], []) := by
  obtain ⟨m, hm⟩ := l46 n b j hb hj j.toNat 0 (by omega)
  refine ⟨m + 1, ?_⟩
  rw [e46]
  refine ct (decide_eq_true (by omega)) ?_
  simpa [gIndex] using hm

theorem rnum2_cut {v : Int} {n : Nat} (hn : n < (uenc (IntKind.wrap .u64 v)).length) : rnum2 ((uenc (IntKind.wrap .u64 v)).take n) = (0, 0, 1) := by
  have h := udec_cut (v := IntKind.wrap .u64 v) (wrapu_range v).1 (wrapu_range v).2 hn
  unfold rnum2
  rw [h, if_pos (by simp)]

theorem rread_cut : ∀ (l pre acc : List (List Cell)) (k : Nat), small l → k < (encL l).length → rreadF (pre ++ (encL l).take k) l.length pre.length acc = ([], 0, 1)
  | [], pre, acc, k, _, hk => by simp [encL] at hk
  | r :: l, pre, acc, k, h, hk => by
    have hr := h r (List.mem_cons_self)
    rw [encL, List.length_append] at hk
    by_cases hc : k < (uenc (IntKind.wrap .u64 (nr r 0))).length
    · have e : (pre ++ (encL (r :: l)).take k).drop ((pre.length : Nat) : Int).toNat = (uenc (IntKind.wrap .u64 (nr r 0))).take k := by
        rw [Int.toNat_natCast, List.drop_left, encL, List.take_append_of_le_length (by omega)]
      rw [List.length_cons, rreadF, e, rnum2_cut hc, if_pos (by simp)]
    · have ih := rread_cut l (pre ++ uenc (IntKind.wrap .u64 (nr r 0))) (acc ++ [reNum r]) (k - (uenc (IntKind.wrap .u64 (nr r 0))).length) (fun q hq => h q (List.mem_cons_of_mem _ hq)) (by omega)
      have et : (encL (r :: l)).take k = uenc (IntKind.wrap .u64 (nr r 0)) ++ (encL l).take (k - (uenc (IntKind.wrap .u64 (nr r 0))).length) := by
        rw [encL, List.take_append, List.take_of_length_le (by omega)]
      have e : (pre ++ (encL (r :: l)).take k).drop ((pre.length : Nat) : Int).toNat = uenc (IntKind.wrap .u64 (nr r 0)) ++ (encL l).take (k - (uenc (IntKind.wrap .u64 (nr r 0))).length) := by
        rw [Int.toNat_natCast, List.drop_left, et]
      rw [List.length_cons, rreadF, e, rnum2_enc hr.1 hr.2, if_neg (by simp)]
      simp only
      rw [et, ← List.append_assoc, ← Int.natCast_add, ← List.length_append]
      exact ih

theorem uenc_pos (v : Int) : 1 ≤ (uenc v).length := by
  unfold uenc uencF
  split <;> simp

end Go.Proofs.Yteogaajjkcfeeaa
