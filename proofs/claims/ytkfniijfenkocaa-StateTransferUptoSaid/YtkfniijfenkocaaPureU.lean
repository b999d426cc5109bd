/-
  The contracts of the functions that many seats share: bytes, numbers, comparisons.
-/
import Derived.Test.YtkfniijfenkocaaEq1
import Derived.Test.YtkfniijfenkocaaBytes
namespace Go.Proofs.Ytkfniijfenkocaa
open Go.Abs

theorem nat_wrap {i n : Nat} (h : i < n) (hn : n < 4611686018427387904) : IntKind.i64.wrap ((i : Int) + 1) = ((i + 1 : Nat) : Int) := by
  rw [wrap64 (by omega) (by omega)]
  omega

theorem k90 (n : Int) : runF E (callOf L42) 1 90 [.one (.int .i64 n)] [] = some ([.one (.bool false)], []) := by
  rw [e90]; simp

theorem k69 (x y : Int) : runF E (callOf L90) 1 69 [.one (.int .i64 x), .one (.int .i64 y)] [] = some ([.one (.int .i64 (cmpI x y))], []) := by
  rw [e69]
  repeat' (refine cs (fun _ => ?_) (fun _ => ?_))
  all_goals refine congrArg (fun z => some ([AV.one (AC.int .i64 z)], ([] : List Block))) ?_
  all_goals simp only [decide_eq_true_eq, decide_eq_false_iff_not, Bool.true_eq_false, Bool.false_eq_true] at *
  all_goals (unfold cmpI; (repeat' split) <;> omega)

theorem l68 (l : List (List Cell)) (hl : l.length < 4611686018427387904) : ∀ (d i : Nat), i + d = l.length →
    ∃ m, goF E (callOf L69) F68 0 m P68_0 (M68_0 0 l l.length i) = some ([.one (.int .i64 (orI1 (l.drop i)))], [])
  | 0, i, hi => by
    refine ⟨1, ?_⟩
    rw [e68_0]
    refine cf (by simp; omega) ?_
    have : l.drop i = [] := List.drop_eq_nil_of_le (by omega)
    rw [this, orI1]
  | d + 1, i, hi => by
    obtain ⟨m, hm⟩ := l68 l hl d (i + 1) (by omega)
    refine ⟨m + 1, ?_⟩
    rw [e68_0]
    refine ct (by simp; omega) (ct (inB_nat' (by omega)) ?_)
    rw [drop_cons l i (by omega), orI1, Int.toNat_natCast, nat_wrap (n := l.length) (by omega) hl, hm]
    show cond (nr (Abs.rowAt l i) 0 != 0) (some ([AV.one (AC.int .i64 (nr (Abs.rowAt l i) 0))], ([] : List Block))) _ = _
    by_cases h0 : nr (Abs.rowAt l i) 0 = 0
    · rw [if_neg (by simpa using h0)]
      exact cf (by simpa using h0) rfl
    · rw [if_pos h0]
      exact ct (by simpa using h0) rfl

theorem k68 (l : List (List Cell)) (hl : l.length < 4611686018427387904) : ∃ m, runF E (callOf L69) m 68 [.one (.sl false 3 l)] [] = some ([.one (.int .i64 (orI1 l))], []) := by
  obtain ⟨m, hm⟩ := l68 l hl l.length 0 (by omega)
  exact ⟨m + 1, by rw [e68]; exact hm⟩

theorem fits_of {n : Nat} (h : n ≤ 4294967296) : fits n = true := by
  unfold fits LIM
  exact Nat.ble_eq_true_of_le h

theorem okEnc_of {x : List (List Cell)} {v : Int} (h : okEnc x v = true) : x.length ≤ 4000000 ∧ 0 ≤ v ∧ v < 18446744073709551616 := by
  unfold okEnc at h
  simp only [Bool.and_eq_true, decide_eq_true_eq] at h
  exact h

theorem okEnc_mk {x : List (List Cell)} {v : Int} (h1 : x.length ≤ 4000000) (h2 : 0 ≤ v) (h3 : v < 18446744073709551616) : okEnc x v = true := by
  unfold okEnc
  simp only [Bool.and_eq_true, decide_eq_true_eq]
  exact ⟨h1, h2, h3⟩

theorem l58 (x : List (List Cell)) (hx : x.length ≤ 4000000) : ∀ (k : Nat) (v : Int) (acc : List (List Cell)), 0 ≤ v → v < 128 ^ k → v < 18446744073709551616 → 1 ≤ k → acc.length + k ≤ 1000 →
    ∃ m, goF E (callOf L51) F58 0 m P58_0 (M58_0 x v acc) = some ([.one (.sl true 5 (x ++ (acc ++ uencF k v)))], [])
  | 0, _, _, _, _, _, h, _ => by omega
  | k + 1, v, acc, h0, h1, h2, _, hl => by
    by_cases hs : v < 128
    · refine ⟨1, ?_⟩
      rw [e58_0]
      refine cf (decide_eq_false (by omega)) (ct (fits_of (by simp; omega)) (ct (inB_nat' (by omega)) (ct (by simp) (ct (fits_of (by simp [takeN_eq]; omega)) ?_))))
      rw [takeN_eq, Int.toNat_natCast, List.take_length, wrap8 (by omega) (by omega), uencF, if_pos hs]
    · have hk : 1 ≤ k := by
        cases k with
        | zero => simp at h1; omega
        | succ k => omega
      obtain ⟨m, hm⟩ := l58 x hx k (v / 128) (acc ++ [[.int .u8 (v % 128 + 128)]]) (by omega) (by rw [Int.pow_succ] at h1; omega) (by omega) hk (by simp; omega)
      refine ⟨m + 1, ?_⟩
      rw [e58_0]
      refine ct (decide_eq_true (by omega)) (ct (fits_of (by simp; omega)) ?_)
      have e : orI .u8 (IntKind.wrap .u8 v) 128 = v % 128 + 128 := by
        rw [wrapu8_eq, or8 (by omega) (by omega)]
        omega
      rw [e, shr7, hm, uencF, if_neg hs, List.append_assoc]
      rfl

theorem pow10 {v : Int} (h : v < 18446744073709551616) : v < 128 ^ 10 := by
  have e : (128 : Int) ^ 10 = 1180591620717411303424 := by decide
  rw [e]; omega

theorem k58 (x : List (List Cell)) (v : Int) (h : okEnc x v = true) : ∃ m, runF E (callOf L51) m 58 [.one (.sl false 5 x), .one (.int .u64 v)] [] = some ([.one (.sl true 5 (x ++ uenc v))], []) := by
  obtain ⟨h1, h2, h3⟩ := okEnc_of h
  obtain ⟨m, hm⟩ := l58 x h1 10 v [] h2 (pow10 h3) h3 (by omega) (by simp)
  exact ⟨m + 1, by rw [e58]; exact hm⟩

theorem l82 : ∀ (k : Nat) (v : Int) (acc : List (List Cell)), 0 ≤ v → v < 128 ^ k → v < 18446744073709551616 → 1 ≤ k → acc.length + k ≤ 4001000 →
    ∃ m, goF E (callOf L58) F82 0 m P82_0 (M82_0 v acc) = some ([.one (.sl true 5 (acc ++ uencF k v))], [])
  | 0, _, _, _, _, _, h, _ => by omega
  | k + 1, v, acc, h0, h1, h2, _, hl => by
    by_cases hs : v < 128
    · refine ⟨1, ?_⟩
      rw [e82_0]
      refine cf (decide_eq_false (by omega)) (ct (fits_of (by simp; omega)) ?_)
      rw [wrap8 (by omega) (by omega), uencF, if_pos hs]
    · have hk : 1 ≤ k := by
        cases k with
        | zero => simp at h1; omega
        | succ k => omega
      obtain ⟨m, hm⟩ := l82 k (v / 128) (acc ++ [[.int .u8 (v % 128 + 128)]]) (by omega) (by rw [Int.pow_succ] at h1; omega) (by omega) hk (by simp; omega)
      refine ⟨m + 1, ?_⟩
      rw [e82_0]
      refine ct (decide_eq_true (by omega)) (ct (fits_of (by simp; omega)) ?_)
      have e1 : Int.tmod v 128 = v % 128 := Int.tmod_eq_emod_of_nonneg h0
      have e2 : Int.tdiv v 128 = v / 128 := Int.tdiv_eq_ediv_of_nonneg h0
      rw [e1, e2, wrap8 (n := v % 128) (by omega) (by omega), wrap8 (by omega) (by omega), wrapu (by omega) (by omega), hm, uencF, if_neg hs, List.append_assoc]
      rfl

theorem k82 (x : List (List Cell)) (v : Int) (h : okEnc x v = true) : ∃ m, runF E (callOf L58) m 82 [.one (.sl false 5 x), .one (.int .u64 v)] [] = some ([.one (.sl true 5 (x ++ uenc v))], []) := by
  obtain ⟨h1, h2, h3⟩ := okEnc_of h
  obtain ⟨m, hm⟩ := l82 10 v ([] ++ x) h2 (pow10 h3) h3 (by omega) (by simp; omega)
  refine ⟨m + 1, ?_⟩
  rw [e82]
  exact ct (fits_of (by simp; omega)) hm

theorem okRd_of {x : List (List Cell)} (h : okRd x = true) : okB x = true ∧ x.length ≤ 4000000 := by
  unfold okRd okLen at h
  simpa using h

theorem okRd_mk {x : List (List Cell)} (h1 : okB x = true) (h2 : x.length ≤ 4000000) : okRd x = true := by
  unfold okRd okLen
  simp [h1, h2]

theorem okRd_drop {x : List (List Cell)} (h : okRd x = true) (n : Nat) : okRd (x.drop n) = true :=
  okRd_mk (okB_drop (okRd_of h).1 n) (by have := (okRd_of h).2; simp; omega)

/-- the results of a reading as the code hands them back -/
def rd3 (r : Int × Int × Int) : List AV × List Block := ([.one (.int .u64 r.1), .one (.int .i64 r.2.1), .one (.int .i64 r.2.2)], [])

theorem udecF_step (k : Nat) (i : Nat) (acc : Int) (x : List (List Cell)) (hi : i < x.length) : udecF (k + 1) i acc (x.drop i) =
    if k = 0 ∧ 1 < nr (Abs.rowAt x i) 0 then (0, 0, 9)
    else if nr (Abs.rowAt x i) 0 < 128 then (if nr (Abs.rowAt x i) 0 = 0 ∧ 0 < i then (0, 0, 2) else (acc + nr (Abs.rowAt x i) 0 * 128 ^ i, (i : Int) + 1, 0))
    else udecF k ((i + 1 : Nat) : Int) (acc + (nr (Abs.rowAt x i) 0 - 128) * 128 ^ i) (x.drop (i + 1)) := by
  rw [drop_cons x i hi, udecF]
  simp only [Int.toNat_natCast]
  rw [show ((i : Int) + 1) = ((i + 1 : Nat) : Int) by omega]
  simp only [Int.natCast_pos]

theorem l60 (x : List (List Cell)) (hx : okRd x = true) : ∀ (k i : Nat) (acc : Int), i + k = 9 → 1 ≤ i → i ≤ x.length → 0 ≤ acc → acc < 128 ^ i →
    ∃ m, goF E (callOf L63) F60 0 m P60_0 (M60_0 x acc i) = some (rd3 (udecF (k + 1) i acc (x.drop i))) := by
  intro k
  induction k with
  | zero =>
    intro i acc hi h1 hl h0 hacc
    have h9 : i = 9 := by omega
    subst h9
    by_cases hend : 9 = x.length
    · refine ⟨1, ?_⟩
      rw [e60_0]
      refine ct (by simp; omega) ?_
      have : x.drop 9 = [] := List.drop_eq_nil_of_le (by omega)
      rw [this, udecF]
      rfl
    · refine ⟨1, ?_⟩
      obtain ⟨c0, c1⟩ := okB_at (okRd_of hx).1 (i := 9) (by omega)
      rw [e60_0, udecF_step 0 9 acc x (by omega)]
      refine cf (by simp; omega) (ct (inB_nat' (by omega)) (ct (by simp) ?_))
      simp only [Int.toNat_natCast]
      by_cases hc : 1 < nr (Abs.rowAt x 9) 0
      · rw [if_pos ⟨by trivial, hc⟩]
        exact ct (decide_eq_true hc) rfl
      · rw [if_neg (fun h => hc h.2), if_pos (by omega)]
        refine cf (decide_eq_false hc) ?_
        rw [wrap64 (n := 7 * ((9 : Nat) : Int)) (by omega) (by omega), wrap64 (n := ((9 : Nat) : Int) + 1) (by omega) (by omega)]
        refine cf (by decide) ?_
        refine cf (decide_eq_false (by omega)) ?_
        by_cases hz : nr (Abs.rowAt x 9) 0 = 0
        · rw [if_pos ⟨hz, by omega⟩]
          exact ct (by simpa using hz) (ct (by decide) rfl)
        · rw [if_neg (fun h => hz h.1)]
          refine cf (by simpa using hz) ?_
          rw [andNot8 c0 c1, wrapu (by omega) (by omega), show nr (Abs.rowAt x 9) 0 % 128 = nr (Abs.rowAt x 9) 0 by omega]
          have := (step64 (i := 9) h0 hacc c0 (by omega) (by omega) (fun _ => by omega)).1
          rw [show (7 * ((9 : Nat) : Int)) = ((7 * 9 : Nat) : Int) by omega, this]
          rfl
  | succ k ih =>
    intro i acc hi h1 hl h0 hacc
    by_cases hend : i = x.length
    · refine ⟨1, ?_⟩
      rw [e60_0]
      refine ct (by simp; omega) ?_
      have : x.drop i = [] := List.drop_eq_nil_of_le (by omega)
      rw [this, udecF]
      rfl
    · obtain ⟨c0, c1⟩ := okB_at (okRd_of hx).1 (i := i) (by omega)
      have hs := step64 (c := nr (Abs.rowAt x i) 0 % 128) (i := i) h0 hacc (by omega) (by omega) (by omega) (fun h => by omega)
      have hw : IntKind.u64.wrap (andNotI .u8 (nr (Abs.rowAt x i) 0) 128) = nr (Abs.rowAt x i) 0 % 128 := by
        rw [andNot8 c0 c1, wrapu (by omega) (by omega)]
      rw [udecF_step (k + 1) i acc x (by omega), if_neg (by omega)]
      by_cases hc : nr (Abs.rowAt x i) 0 < 128
      · refine ⟨1, ?_⟩
        rw [e60_0]
        refine cf (by simp; omega) (ct (inB_nat' (by omega)) (cf (by simp; omega) ?_))
        rw [wrap64 (n := 7 * (i : Int)) (by omega) (by omega), wrap64 (n := (i : Int) + 1) (by omega) (by omega), Int.toNat_natCast]
        refine cf (decide_eq_false (by omega)) ?_
        refine cf (decide_eq_false (by omega)) ?_
        rw [if_pos hc]
        by_cases hz : nr (Abs.rowAt x i) 0 = 0
        · rw [if_pos ⟨hz, by omega⟩]
          exact ct (by simpa using hz) (ct (decide_eq_true (by omega)) rfl)
        · rw [if_neg (fun h => hz h.1)]
          refine cf (by simpa using hz) ?_
          rw [hw, show (7 * (i : Int)) = ((7 * i : Nat) : Int) by omega, hs.1, show nr (Abs.rowAt x i) 0 % 128 = nr (Abs.rowAt x i) 0 by omega]
          rfl
      · rw [if_neg hc]
        obtain ⟨m, hm⟩ := ih (i + 1) (acc + (nr (Abs.rowAt x i) 0 % 128) * 128 ^ i) (by omega) (by omega) (by omega) hs.2.1 hs.2.2.1
        refine ⟨m + 1, ?_⟩
        rw [e60_0]
        refine cf (by simp; omega) (ct (inB_nat' (by omega)) (cf (by simp; omega) ?_))
        rw [wrap64 (n := 7 * (i : Int)) (by omega) (by omega), wrap64 (n := (i : Int) + 1) (by omega) (by omega), Int.toNat_natCast]
        refine cf (decide_eq_false (by omega)) ?_
        refine ct (decide_eq_true (by omega)) ?_
        rw [hw, show (7 * (i : Int)) = ((7 * i : Nat) : Int) by omega, hs.1, show (i : Int) + 1 = ((i + 1 : Nat) : Int) by omega, hm, show nr (Abs.rowAt x i) 0 % 128 = nr (Abs.rowAt x i) 0 - 128 by omega]

theorem k60 (x : List (List Cell)) (hx : okRd x = true) : ∃ m, runF E (callOf L63) m 60 [.one (.sl false 5 x)] [] = some (rd3 (udec x)) := by
  unfold udec
  by_cases hend : x.length = 0
  · refine ⟨1, ?_⟩
    rw [e60]
    refine ct (by simp; omega) ?_
    rw [List.length_eq_zero_iff.1 hend, udecF]
    rfl
  · obtain ⟨c0, c1⟩ := okB_at (okRd_of hx).1 (i := 0) (by omega)
    have hs := step64 (acc := 0) (c := nr (Abs.rowAt x 0) 0 % 128) (i := 0) (by omega) (by simp) (by omega) (by omega) (by omega) (fun h => by omega)
    have hw : IntKind.u64.wrap (andNotI .u8 (nr (Abs.rowAt x 0) 0) 128) = nr (Abs.rowAt x 0) 0 % 128 := by
      rw [andNot8 c0 c1, wrapu (by omega) (by omega)]
    have hu := udecF_step 9 0 0 x (by omega)
    rw [List.drop_zero] at hu
    simp only [Int.ofNat_zero] at hu
    rw [hu, if_neg (by omega)]
    have hs1 : orI .u64 0 (shlI .u64 (nr (Abs.rowAt x 0) 0 % 128) 0) = nr (Abs.rowAt x 0) 0 % 128 := by
      have := hs.1
      simpa using this
    by_cases hc : nr (Abs.rowAt x 0) 0 < 128
    · refine ⟨1, ?_⟩
      rw [e60, if_pos hc, if_neg (by omega)]
      refine cf (by simp; omega) (ct (inB_of (by omega) (by omega)) ?_)
      refine cf (decide_eq_false (by omega)) ?_
      rw [hw, hs1, show nr (Abs.rowAt x 0) 0 % 128 = nr (Abs.rowAt x 0) 0 by omega]
      generalize nr (Abs.rowAt x 0) 0 = c
      unfold rd3
      cases (c == 0) <;> simp
    · obtain ⟨m, hm⟩ := l60 x hx 8 1 (nr (Abs.rowAt x 0) 0 % 128) (by omega) (by omega) (by omega) (by omega) (by simp; omega)
      refine ⟨m + 1, ?_⟩
      rw [e60, if_neg hc]
      refine cf (by simp; omega) (ct (inB_of (by omega) (by omega)) ?_)
      refine ct (decide_eq_true (by omega)) ?_
      rw [hw, hs1]
      refine Eq.trans hm ?_
      congr 2
      rw [show nr (Abs.rowAt x 0) 0 % 128 = 0 + (nr (Abs.rowAt x 0) 0 - 128) * 128 ^ 0 by simp; omega]

theorem l64 (x : List (List Cell)) (hx : okRd x = true) : ∀ (k i : Nat) (acc : Int), i + k = 9 → i ≤ x.length → 0 ≤ acc → acc < 128 ^ i →
    ∃ m, goF E (callOf L60) F64 0 m P64_0 (M64_0 x acc i) = some (rd3 (udecF (k + 1) i acc (x.drop i))) := by
  intro k
  induction k with
  | zero =>
    intro i acc hi hl h0 hacc
    have h9 : i = 9 := by omega
    subst h9
    refine ⟨1, ?_⟩
    rw [e64_0]
    refine ct (by simp) ?_
    by_cases hend : 9 = x.length
    · refine ct (by simp; omega) ?_
      have : x.drop 9 = [] := List.drop_eq_nil_of_le (by omega)
      rw [this, udecF]
      rfl
    · obtain ⟨c0, c1⟩ := okB_at (okRd_of hx).1 (i := 9) (by omega)
      rw [udecF_step 0 9 acc x (by omega)]
      refine cf (by simp; omega) (ct (by simp) (ct (inB_nat' (by omega)) ?_))
      simp only [Int.toNat_natCast]
      by_cases hc : 1 < nr (Abs.rowAt x 9) 0
      · rw [if_pos ⟨by trivial, hc⟩]
        exact ct (decide_eq_true hc) rfl
      · rw [if_neg (fun h => hc h.2), if_pos (by omega)]
        refine cf (decide_eq_false hc) ?_
        rw [inB_nat' (by omega : 9 < x.length), wrap64 (n := 7 * ((9 : Nat) : Int)) (by omega) (by omega), wrap64 (n := ((9 : Nat) : Int) + 1) (by omega) (by omega), wrapu (n := 7 * ((9 : Nat) : Int)) (by omega) (by omega)]
        refine ct rfl (cf (by decide) (ct rfl ?_))
        refine ct (decide_eq_true (by omega)) (ct rfl ?_)
        by_cases hz : nr (Abs.rowAt x 9) 0 = 0
        · rw [if_pos ⟨hz, by omega⟩]
          exact ct (by simpa using hz) (ct (by decide) rfl)
        · rw [if_neg (fun h => hz h.1)]
          refine cf (by simpa using hz) ?_
          rw [Int.tmod_eq_emod_of_nonneg c0, wrapu (n := nr (Abs.rowAt x 9) 0 % 128) (by omega) (by omega), show nr (Abs.rowAt x 9) 0 % 128 = nr (Abs.rowAt x 9) 0 by omega]
          have := (step64 (i := 9) h0 hacc c0 (by omega) (by omega) (fun _ => by omega)).1
          rw [show (7 * ((9 : Nat) : Int)) = ((7 * 9 : Nat) : Int) by omega, this]
          rfl
  | succ k ih =>
    intro i acc hi hl h0 hacc
    by_cases hend : i = x.length
    · refine ⟨1, ?_⟩
      rw [e64_0]
      refine ct (decide_eq_true (by omega)) (ct (by simp; omega) ?_)
      have : x.drop i = [] := List.drop_eq_nil_of_le (by omega)
      rw [this, udecF]
      rfl
    · obtain ⟨c0, c1⟩ := okB_at (okRd_of hx).1 (i := i) (by omega)
      have hs := step64 (c := nr (Abs.rowAt x i) 0 % 128) (i := i) h0 hacc (by omega) (by omega) (by omega) (fun h => by omega)
      have hw : IntKind.u64.wrap (Int.tmod (nr (Abs.rowAt x i) 0) 128) = nr (Abs.rowAt x i) 0 % 128 := by
        rw [Int.tmod_eq_emod_of_nonneg c0, wrapu (by omega) (by omega)]
      rw [udecF_step (k + 1) i acc x (by omega), if_neg (by omega)]
      by_cases hc : nr (Abs.rowAt x i) 0 < 128
      · refine ⟨1, ?_⟩
        rw [e64_0]
        rw [inB_nat' (by omega : i < x.length), wrap64 (n := 7 * (i : Int)) (by omega) (by omega), wrap64 (n := (i : Int) + 1) (by omega) (by omega), wrapu (n := 7 * (i : Int)) (by omega) (by omega), Int.toNat_natCast]
        refine ct (decide_eq_true (by omega)) (cf (by simp; omega) (cf (by simp; omega) (ct rfl (cf (decide_eq_false (by omega)) (ct rfl ?_)))))
        refine ct (decide_eq_true hc) (ct rfl ?_)
        rw [if_pos hc, hw, show (7 * (i : Int)) = ((7 * i : Nat) : Int) by omega, hs.1, show nr (Abs.rowAt x i) 0 % 128 = nr (Abs.rowAt x i) 0 by omega]
        by_cases hz : nr (Abs.rowAt x i) 0 = 0
        · refine ct (by simpa using hz) ?_
          by_cases hp : 0 < i
          · rw [if_pos ⟨hz, hp⟩]
            exact ct (decide_eq_true (by omega)) rfl
          · rw [if_neg (fun h => hp h.2)]
            exact cf (decide_eq_false (by omega)) rfl
        · rw [if_neg (fun h => hz h.1)]
          exact cf (by simpa using hz) rfl
      · rw [if_neg hc]
        obtain ⟨m, hm⟩ := ih (i + 1) (acc + (nr (Abs.rowAt x i) 0 % 128) * 128 ^ i) (by omega) (by omega) hs.2.1 hs.2.2.1
        refine ⟨m + 1, ?_⟩
        rw [e64_0]
        rw [inB_nat' (by omega : i < x.length), wrap64 (n := 7 * (i : Int)) (by omega) (by omega), wrap64 (n := (i : Int) + 1) (by omega) (by omega), wrapu (n := 7 * (i : Int)) (by omega) (by omega), Int.toNat_natCast]
        refine ct (decide_eq_true (by omega)) (cf (by simp; omega) (cf (by simp; omega) (ct rfl (cf (decide_eq_false (by omega)) (ct rfl ?_)))))
        refine cf (decide_eq_false hc) ?_
        rw [hw, show (7 * (i : Int)) = ((7 * i : Nat) : Int) by omega, hs.1, show (i : Int) + 1 = ((i + 1 : Nat) : Int) by omega, hm, show nr (Abs.rowAt x i) 0 % 128 = nr (Abs.rowAt x i) 0 - 128 by omega]

theorem k64 (x : List (List Cell)) (hx : okRd x = true) : ∃ m, runF E (callOf L60) m 64 [.one (.sl false 5 x)] [] = some (rd3 (udec x)) := by
  obtain ⟨m, hm⟩ := l64 x hx 9 0 0 (by omega) (by omega) (by omega) (by simp)
  exact ⟨m + 1, by rw [e64]; exact hm⟩

theorem udecF_bound : ∀ (k : Nat) (i acc : Int) (l : List (List Cell)), 0 ≤ acc → 0 ≤ i → (∀ r ∈ l, 0 ≤ nr r 0) → (udecF k i acc l).2.2 = 0 → i < (udecF k i acc l).2.1 ∧ (udecF k i acc l).2.1 ≤ i + l.length ∧ 0 ≤ (udecF k i acc l).1
  | 0, _, _, _, _, _, _, h => by simp [udecF] at h
  | k + 1, _, _, [], _, _, _, h => by simp [udecF] at h
  | k + 1, i, acc, r :: rs, ha, hi, hl, h => by
    have h0 := hl r (List.mem_cons_self)
    have hp : (0 : Int) < 128 ^ i.toNat := Int.pow_pos (by decide)
    unfold udecF at h ⊢
    split
    · rw [if_pos (by assumption)] at h; simp at h
    · rw [if_neg (by assumption)] at h
      split
      · rw [if_pos (by assumption)] at h
        split
        · rw [if_pos (by assumption)] at h; simp at h
        · have := Int.mul_nonneg h0 (Int.le_of_lt hp)
          simp only [List.length_cons]
          omega
      · rw [if_neg (by assumption)] at h
        have := Int.mul_nonneg (show 0 ≤ nr r 0 - 128 by omega) (Int.le_of_lt hp)
        have := udecF_bound k (i + 1) (acc + (nr r 0 - 128) * 128 ^ i.toNat) rs (by omega) (by omega) (fun r hr => hl r (List.mem_cons_of_mem _ hr)) h
        simp only [List.length_cons]
        omega

theorem okB_nonneg {x : List (List Cell)} (h : okB x = true) : ∀ r ∈ x, 0 ≤ nr r 0 := fun r hr => (isByte_nr (List.all_eq_true.1 h r hr)).1

theorem udec_bound {x : List (List Cell)} (hx : okB x = true) (h : (udec x).2.2 = 0) : 0 < (udec x).2.1 ∧ (udec x).2.1 ≤ x.length ∧ 0 ≤ (udec x).1 := by
  have := udecF_bound 10 0 0 x (by omega) (by omega) (okB_nonneg hx) h
  unfold udec
  omega

theorem rnum2_bound {x : List (List Cell)} (hx : okB x = true) (h : (rnum2 x).2.2 = 0) : 0 < (rnum2 x).2.1 ∧ (rnum2 x).2.1 ≤ x.length ∧ 0 ≤ (rnum2 x).1 ∧ (rnum2 x).1 ≤ 2147483647 := by
  unfold rnum2 at h ⊢
  split
  · rw [if_pos (by assumption)] at h
    simp at h
    omega
  · rename_i h1
    rw [if_neg h1] at h
    split
    · rw [if_pos (by assumption)] at h; simp at h
    · have := udec_bound hx (by omega)
      omega

theorem k85 (x : List (List Cell)) (hx : okRd x = true) : runF E (callOf L106) 1 85 [.one (.sl false 5 x)] [] = some ([.one (.int .i64 (rnum2 x).1), .one (.int .i64 (rnum2 x).2.1), .one (.int .i64 (rnum2 x).2.2)], []) := by
  rw [e85]
  refine ct hx ?_
  unfold rnum2
  by_cases h : (udec x).2.2 = 0
  · refine cf (by simpa using h) ?_
    rw [if_neg (by simpa using h)]
    by_cases h1 : 2147483647 < (udec x).1
    · rw [if_pos h1]
      exact ct (decide_eq_true h1) rfl
    · rw [if_neg h1]
      refine cf (decide_eq_false h1) ?_
      have := udec_bound (okRd_of hx).1 h
      rw [wrap64 (by omega) (by omega), h]
  · rw [if_pos h]
    exact ct (by simpa using h) rfl

theorem okAt_of {x : List (List Cell)} {o : Int} (h : okAt x o = true) : okRd x = true ∧ 0 ≤ o ∧ o ≤ x.length := by
  unfold okAt at h
  unfold okRd
  simp only [Bool.and_eq_true, decide_eq_true_eq] at h ⊢
  exact ⟨⟨h.1, h.2.1⟩, h.2.2⟩

theorem okAt_mk {x : List (List Cell)} {o : Int} (h : okRd x = true) (h0 : 0 ≤ o) (h1 : o ≤ x.length) : okAt x o = true := by
  unfold okAt
  unfold okRd at h
  simp only [Bool.and_eq_true, decide_eq_true_eq] at h ⊢
  exact ⟨h.1, h.2, h0, h1⟩

/-- the reader's state behind a number -/
theorem rnum_at {b : List (List Cell)} {o e : Int} (h : okAt b o = true) : okAt b (rnum b o e).2.1 = true := by
  obtain ⟨h1, h2, h3⟩ := okAt_of h
  unfold rnum
  split
  · exact h
  · split
    · exact h
    · rename_i h4
      have := rnum2_bound (okB_drop (okRd_of h1).1 o.toNat) (by simpa using h4)
      rw [List.length_drop] at this
      exact okAt_mk h1 (by simp only; omega) (by simp only; omega)

theorem l100 (x : List (List Cell)) (hx : okRd x = true) (c : Int) (hc : c ≤ 1000) : ∀ (d i : Nat) (o : Int) (acc : List (List Cell)), i + d = c.toNat → 0 ≤ o → o ≤ x.length → acc.length = i →
    ∃ m, goF E (callOf L61) F100 0 m P100_0 (M100_0 x c acc o i) = some ([.one (.sl true 3 (rreadF x d o acc).1), .one (.int .i64 (rreadF x d o acc).2.1), .one (.int .i64 (rreadF x d o acc).2.2)], []) := by
  intro d
  induction d with
  | zero =>
    intro i o acc hi h0 h1 ha
    refine ⟨1, ?_⟩
    rw [e100_0]
    exact cf (decide_eq_false (by omega)) rfl
  | succ d ih =>
    intro i o acc hi h0 h1 ha
    have h4 := okRd_drop hx o.toNat
    have hl := (okRd_of hx).2
    by_cases he : (rnum2 (x.drop o.toNat)).2.2 = 0
    · have hb := rnum2_bound (okRd_of h4).1 he
      rw [List.length_drop] at hb
      obtain ⟨m, hm⟩ := ih (i + 1) (o + (rnum2 (x.drop o.toNat)).2.1) (acc ++ [[.int .i64 (rnum2 (x.drop o.toNat)).1]]) (by omega) (by omega) (by omega) (by simp; omega)
      refine ⟨m + 1, ?_⟩
      rw [e100_0, dropN_eq]
      refine ct (decide_eq_true (by omega)) (ct (inB_of h0 (by omega)) (ct h4 (cf (by simpa using he) (ct (fits_of (by simp; omega)) ?_))))
      rw [wrap64 (by omega) (by omega), wrap64 (by omega) (by omega), show (i : Int) + 1 = ((i + 1 : Nat) : Int) by omega, hm, rreadF, if_neg (by simpa using he)]
    · refine ⟨1, ?_⟩
      rw [e100_0, dropN_eq]
      refine ct (decide_eq_true (by omega)) (ct (inB_of h0 (by omega)) (ct h4 (ct (by simpa using he) ?_)))
      rw [rreadF, if_pos he]

theorem k100 (x : List (List Cell)) (c : Int) (h : (okRd x && decide (c ≤ 1000)) = true) : ∃ m, runF E (callOf L61) m 100 [.one (.sl false 5 x), .one (.int .i64 c)] [] = some ([.one (.sl true 3 (rread x c).1), .one (.int .i64 (rread x c).2.1), .one (.int .i64 (rread x c).2.2)], []) := by
  simp only [Bool.and_eq_true, decide_eq_true_eq] at h
  obtain ⟨m, hm⟩ := l100 x h.1 c h.2 c.toNat 0 0 [] (by omega) (by omega) (by omega) rfl
  exact ⟨m + 1, by rw [e100]; exact hm⟩

theorem encL_app : ∀ (x y : List (List Cell)), encL (x ++ y) = encL x ++ encL y
  | [], y => rfl
  | r :: x, y => by rw [List.cons_append, encL, encL, encL_app x y, List.append_assoc]

theorem encL_len : ∀ (x : List (List Cell)), (encL x).length ≤ 10 * x.length
  | [] => by simp [encL]
  | r :: x => by
    have := encL_len x
    have := uenc_len (IntKind.wrap .u64 (nr r 0))
    simp only [encL, List.length_append, List.length_cons]
    omega

theorem encL_okB : ∀ (x : List (List Cell)), okB (encL x) = true
  | [] => rfl
  | r :: x => by
    rw [encL]
    exact okB_app (uencF_okB 10 _ (wrapu_range _).1) (encL_okB x)

theorem okNums_of {x l : List (List Cell)} (h : okNums x l = true) : x.length ≤ 2000000 ∧ l.length ≤ 10000 := by
  unfold okNums at h
  simpa using h

theorem okNums_mk {x l : List (List Cell)} (h1 : x.length ≤ 2000000) (h2 : l.length ≤ 10000) : okNums x l = true := by
  unfold okNums
  simp [h1, h2]

theorem l62 (l : List (List Cell)) (hl : l.length ≤ 10000) : ∀ (d i : Nat) (x : List (List Cell)), i + d = l.length → x.length ≤ 2000000 + 10 * i →
    ∃ m, goF E (callOf L59) F62 0 m P62_0 (M62_0 x l i) = some ([.one (.sl false 5 (x ++ encL (l.drop i)))], [])
  | 0, i, x, hi, hx => by
    refine ⟨1, ?_⟩
    rw [e62_0]
    have : l.drop i = [] := List.drop_eq_nil_of_le (by omega)
    refine cf (decide_eq_false (by omega)) ?_
    rw [this, encL, List.append_nil]
  | d + 1, i, x, hi, hx => by
    have hu := uenc_len (IntKind.wrap .u64 (nr (Abs.rowAt l i) 0))
    obtain ⟨m, hm⟩ := l62 l hl d (i + 1) (x ++ uenc (IntKind.wrap .u64 (nr (Abs.rowAt l i) 0))) (by omega) (by simp; omega)
    refine ⟨m + 1, ?_⟩
    rw [e62_0]
    have hr := wrapu_range (nr (Abs.rowAt l i) 0)
    rw [Int.toNat_natCast]
    refine ct (decide_eq_true (by omega)) (ct (inB_nat' (by omega)) (ct (okEnc_mk (by omega) hr.1 hr.2) ?_))
    rw [nat_wrap (n := l.length) (by omega) (by omega), hm, drop_cons l i (by omega), encL, List.append_assoc]

theorem k62 (x l : List (List Cell)) (h : okNums x l = true) : ∃ m, runF E (callOf L59) m 62 [.one (.sl false 5 x), .one (.sl false 3 l)] [] = some ([.one (.sl false 5 (x ++ encL l))], []) := by
  obtain ⟨h1, h2⟩ := okNums_of h
  obtain ⟨m, hm⟩ := l62 l h2 l.length 0 x (by omega) (by omega)
  exact ⟨m + 1, by rw [e62]; exact hm⟩

def chain (x : List (List Cell)) : Nat → Int → Int → List Int × Int × Int
  | 0, o, e => ([], o, e)
  | k + 1, o, e => ((rnum x o e).1 :: (chain x k (rnum x o e).2.1 (rnum x o e).2.2).1, (chain x k (rnum x o e).2.1 (rnum x o e).2.2).2)

theorem chain_err (x : List (List Cell)) (o e : Int) (he : e ≠ 0) : ∀ k, (chain x k o e).2 = (o, e)
  | 0 => rfl
  | k + 1 => by
    have : rnum x o e = (0, o, e) := by unfold rnum; rw [if_pos he]
    simp only [chain, this]
    exact chain_err x o e he k

theorem chain_rd (x : List (List Cell)) (hx : okRd x = true) (o : Int) (ho : 0 ≤ o) : ∀ (k : Nat) (a : Int) (acc : List (List Cell)), 0 ≤ a → o + a ≤ x.length →
    (rreadF (x.drop o.toNat) k a acc).2.2 = (chain x k (o + a) 0).2.2 ∧
    ((rreadF (x.drop o.toNat) k a acc).2.2 = 0 → (chain x k (o + a) 0).2.1 = o + (rreadF (x.drop o.toNat) k a acc).2.1 ∧ (rreadF (x.drop o.toNat) k a acc).1 = acc ++ (chain x k (o + a) 0).1.map fun n => [Cell.int .i64 n])
  | 0, a, acc, _, _ => by simp [rreadF, chain]
  | k + 1, a, acc, ha, hl => by
    have hd : (x.drop o.toNat).drop a.toNat = x.drop (o + a).toNat := by
      rw [List.drop_drop]
      congr 1
      omega
    simp only [rreadF, chain, hd]
    by_cases he : (rnum2 (x.drop (o + a).toNat)).2.2 = 0
    · have hr : rnum x (o + a) 0 = ((rnum2 (x.drop (o + a).toNat)).1, o + a + (rnum2 (x.drop (o + a).toNat)).2.1, 0) := by
        unfold rnum
        rw [if_neg (by simp), if_neg (by simpa using he)]
      have hb := rnum2_bound (okRd_of (okRd_drop hx (o + a).toNat)).1 he
      rw [List.length_drop] at hb
      rw [if_neg (by simpa using he), hr]
      have := chain_rd x hx o ho k (a + (rnum2 (x.drop (o + a).toNat)).2.1) (acc ++ [[.int .i64 (rnum2 (x.drop (o + a).toNat)).1]]) (by omega) (by omega)
      rw [← Int.add_assoc] at this
      refine ⟨this.1, fun h => ⟨(this.2 h).1, ?_⟩⟩
      rw [(this.2 h).2]
      simp
    · have hr : rnum x (o + a) 0 = (0, o + a, (rnum2 (x.drop (o + a).toNat)).2.2) := by
        unfold rnum
        rw [if_neg (by simp), if_pos he]
      rw [if_pos he, hr]
      simp only
      rw [chain_err x (o + a) _ he k]
      exact ⟨rfl, fun h => absurd h he⟩

theorem chain_read {x : List (List Cell)} (hx : okRd x = true) {o : Int} (ho : 0 ≤ o) (hl : o ≤ x.length) (c : Int) :
    (rread (x.drop o.toNat) c).2.2 = (chain x c.toNat o 0).2.2 ∧
    ((rread (x.drop o.toNat) c).2.2 = 0 → (chain x c.toNat o 0).2.1 = o + (rread (x.drop o.toNat) c).2.1 ∧ (rread (x.drop o.toNat) c).1 = (chain x c.toNat o 0).1.map fun n => [Cell.int .i64 n]) := by
  have := chain_rd x hx o ho c.toNat 0 [] (by omega) (by omega)
  rw [Int.add_zero] at this
  exact this

theorem rreadF_bound (x : List (List Cell)) (hx : okRd x = true) : ∀ (k : Nat) (a : Int) (acc : List (List Cell)), 0 ≤ a → a ≤ x.length → (rreadF x k a acc).2.2 = 0 →
    a ≤ (rreadF x k a acc).2.1 ∧ (rreadF x k a acc).2.1 ≤ x.length ∧ (rreadF x k a acc).1.length = acc.length + k ∧ (1 ≤ k → a < (rreadF x k a acc).2.1)
  | 0, a, acc, ha, hl, _ => ⟨Int.le_refl _, hl, rfl, fun h => by omega⟩
  | k + 1, a, acc, ha, hl, h => by
    simp only [rreadF] at h ⊢
    by_cases he : (rnum2 (x.drop a.toNat)).2.2 = 0
    · have hb := rnum2_bound (okRd_of (okRd_drop hx a.toNat)).1 he
      rw [List.length_drop] at hb
      rw [if_neg (by simpa using he)] at h ⊢
      have := rreadF_bound x hx k _ (acc ++ [[.int .i64 (rnum2 (x.drop a.toNat)).1]]) (by omega) (by omega) h
      simp only [List.length_append, List.length_cons, List.length_nil] at this
      exact ⟨by omega, this.2.1, by omega, fun _ => by omega⟩
    · rw [if_pos he] at h
      exact absurd h he

theorem rread_bound {x : List (List Cell)} (hx : okRd x = true) {c : Int} (h : (rread x c).2.2 = 0) : 0 ≤ (rread x c).2.1 ∧ (rread x c).2.1 ≤ x.length ∧ (rread x c).1.length = c.toNat ∧ (1 ≤ c.toNat → 0 < (rread x c).2.1) := by
  have := rreadF_bound x hx c.toNat 0 [] (by omega) (by omega) h
  rw [List.length_nil, Nat.zero_add] at this
  exact this

/-- numbers that the reader takes -/
def small (l : List (List Cell)) : Prop := ∀ r ∈ l, 0 ≤ nr r 0 ∧ nr r 0 ≤ 2147483647

def reNum (r : List Cell) : List Cell := [.int .i64 (nr r 0)]

theorem rnum2_enc {v : Int} (h0 : 0 ≤ v) (h1 : v ≤ 2147483647) (rest : List (List Cell)) : rnum2 (uenc (IntKind.wrap .u64 v) ++ rest) = (v, ((uenc (IntKind.wrap .u64 v)).length : Int), 0) := by
  have h := udec_uenc (v := IntKind.wrap .u64 v) (wrapu_range v).1 (wrapu_range v).2 rest
  unfold rnum2
  rw [h, if_neg (by simp), wrapu h0 (by omega)]
  simp only
  rw [if_neg (by omega)]

theorem rread_enc (rest : List (List Cell)) : ∀ (l pre acc : List (List Cell)), small l →
    rreadF (pre ++ (encL l ++ rest)) l.length pre.length acc = (acc ++ l.map reNum, ((pre.length + (encL l).length : Nat) : Int), 0)
  | [], pre, acc, _ => by simp [rreadF, encL]
  | r :: l, pre, acc, h => by
    have hr := h r (List.mem_cons_self)
    have ih := rread_enc rest l (pre ++ uenc (IntKind.wrap .u64 (nr r 0))) (acc ++ [reNum r]) (fun q hq => h q (List.mem_cons_of_mem _ hq))
    have e : (pre ++ (encL (r :: l) ++ rest)).drop ((pre.length : Nat) : Int).toNat = uenc (IntKind.wrap .u64 (nr r 0)) ++ (encL l ++ rest) := by
      rw [Int.toNat_natCast, List.drop_left, encL, List.append_assoc]
    rw [List.length_cons, rreadF, e, rnum2_enc hr.1 hr.2, if_neg (by simp)]
    simp only
    have e2 : pre ++ (encL (r :: l) ++ rest) = (pre ++ uenc (IntKind.wrap .u64 (nr r 0))) ++ (encL l ++ rest) := by
      rw [encL]; simp only [List.append_assoc]
    rw [e2, ← Int.natCast_add, ← List.length_append]
    refine ih.trans ?_
    simp only [List.map_cons, List.append_assoc, List.length_append, encL, List.cons_append, List.nil_append]
    congr 3
    omega

theorem small_app {x y : List (List Cell)} : small (x ++ y) ↔ small x ∧ small y := by
  unfold small
  simp only [List.mem_append]
  exact ⟨fun h => ⟨fun r hr => h r (Or.inl hr), fun r hr => h r (Or.inr hr)⟩, fun h r hr => hr.elim (h.1 r) (h.2 r)⟩

theorem k34 (n k : Int) (hk : k ≤ 4611686018427387904) : runF E (callOf L86) 1 34 [.one (.int .i64 n), .one (.int .i64 k)] [] = some ([.one (.int .i64 (gIndex n k))], []) := by
  rw [e34]
  unfold gIndex
  by_cases h : k < 1
  · rw [if_pos h]
    exact ct (decide_eq_true h) rfl
  · rw [if_neg h]
    refine cf (decide_eq_false h) (cf (decide_eq_false (by omega)) (cf (decide_eq_false (by omega)) ?_))
    have h0 := Int.emod_nonneg n (show k ≠ 0 by omega)
    have h1 := Int.emod_lt_of_pos n (show 0 < k by omega)
    have hn : (k.natAbs : Int) = k := by omega
    have e : Int.tmod n k = n % k ∨ Int.tmod n k = n % k - k := by
      rw [Int.tmod_eq_emod]
      split
      · left; omega
      · right; omega
    refine congrArg (fun z => some ([AV.one (AC.int .i64 z)], ([] : List Block))) ?_
    rcases e with e | e
    · rw [e, wrap64 (by omega) (by omega), Int.tmod_eq_emod_of_nonneg (by omega), Int.add_emod_right]
      exact Int.emod_eq_of_lt h0 h1
    · rw [e, Int.sub_add_cancel, wrap64 (by omega) (by omega), Int.tmod_eq_emod_of_nonneg (by omega)]
      exact Int.emod_eq_of_lt h0 h1

theorem gDigit_range (n b j : Int) (hb : 2 ≤ b) : 0 ≤ gDigit n b j ∧ gDigit n b j < b := by
  unfold gDigit
  exact ⟨Int.emod_nonneg _ (by omega), Int.emod_lt_of_pos _ (by omega)⟩

theorem l54 (n b j : Int) (hb : 2 ≤ b) (hj : j ≤ 9223372036854775807) : ∀ (d i : Nat), i + d = j.toNat →
    ∃ m, goF E (callOf L34) F54 0 m P54_0 (M54_0 b j (n % 1099511627776 / b ^ i) i) = some ([.one (.int .i64 (gDigit n b j))], [])
  | 0, i, hi => by
    refine ⟨1, ?_⟩
    rw [e54_0]
    have hp : (0 : Int) < b ^ i := Int.pow_pos (by omega)
    refine cf (decide_eq_false (by omega)) (cf (decide_eq_false (by omega)) ?_)
    rw [Int.tmod_eq_emod_of_nonneg (Int.ediv_nonneg (Int.emod_nonneg _ (by omega)) (by omega))]
    unfold gDigit
    rw [show j.toNat = i by omega]
  | d + 1, i, hi => by
    obtain ⟨m, hm⟩ := l54 n b j hb hj d (i + 1) (by omega)
    refine ⟨m + 1, ?_⟩
    have hp : (0 : Int) < b ^ i := Int.pow_pos (by omega)
    have h0 : 0 ≤ n % 1099511627776 / b ^ i := Int.ediv_nonneg (Int.emod_nonneg _ (by omega)) (by omega)
    have h1 : n % 1099511627776 / b ^ i < 1099511627776 := Int.lt_of_le_of_lt (Int.ediv_le_self _ (Int.emod_nonneg _ (by omega))) (Int.emod_lt_of_pos _ (by omega))
    have h2 : 0 ≤ n % 1099511627776 / b ^ i / b := Int.ediv_nonneg h0 (by omega)
    have h3 : n % 1099511627776 / b ^ i / b ≤ n % 1099511627776 / b ^ i := Int.ediv_le_self _ h0
    rw [e54_0]
    refine ct (decide_eq_true (by omega)) (cf (decide_eq_false (by omega)) ?_)
    rw [Int.tdiv_eq_ediv_of_nonneg h0, wrap64 (by omega) (by omega), wrap64 (by omega) (by omega), show (i : Int) + 1 = ((i + 1 : Nat) : Int) by omega]
    rw [Int.ediv_ediv, if_neg (fun h => by omega), Int.sub_zero, ← Int.pow_succ]
    exact hm

theorem k54 (n b j : Int) (hb : 2 ≤ b) (hj : j ≤ 9223372036854775807) : ∃ m, runF E (callOf L34) m 54 [.one (.int .i64 n), .one (.int .i64 b), .one (.int .i64 j)] [] = some ([.one (.int .i64 (gDigit n b j))], []) := by
  obtain ⟨m, hm⟩ := l54 n b j hb hj j.toNat 0 (by omega)
  refine ⟨m + 1, ?_⟩
  rw [e54]
  refine ct (decide_eq_true (by omega)) ?_
  simpa [gIndex] using hm

theorem rnum2_cut {v : Int} {n : Nat} (hn : n < (uenc (IntKind.wrap .u64 v)).length) : rnum2 ((uenc (IntKind.wrap .u64 v)).take n) = (0, 0, 1) := by
  have h := udec_cut (v := IntKind.wrap .u64 v) (wrapu_range v).1 (wrapu_range v).2 hn
  unfold rnum2
  rw [h, if_pos (by simp)]

theorem rread_cut : ∀ (l pre acc : List (List Cell)) (k : Nat), small l → k < (encL l).length → rreadF (pre ++ (encL l).take k) l.length pre.length acc = ([], 0, 1)
  | [], pre, acc, k, _, hk => by simp [encL] at hk
  | r :: l, pre, acc, k, h, hk => by
    have hr := h r (List.mem_cons_self)
    rw [encL, List.length_append] at hk
    by_cases hc : k < (uenc (IntKind.wrap .u64 (nr r 0))).length
    · have e : (pre ++ (encL (r :: l)).take k).drop ((pre.length : Nat) : Int).toNat = (uenc (IntKind.wrap .u64 (nr r 0))).take k := by
        rw [Int.toNat_natCast, List.drop_left, encL, List.take_append_of_le_length (by omega)]
      rw [List.length_cons, rreadF, e, rnum2_cut hc, if_pos (by simp)]
    · have ih := rread_cut l (pre ++ uenc (IntKind.wrap .u64 (nr r 0))) (acc ++ [reNum r]) (k - (uenc (IntKind.wrap .u64 (nr r 0))).length) (fun q hq => h q (List.mem_cons_of_mem _ hq)) (by omega)
      have et : (encL (r :: l)).take k = uenc (IntKind.wrap .u64 (nr r 0)) ++ (encL l).take (k - (uenc (IntKind.wrap .u64 (nr r 0))).length) := by
        rw [encL, List.take_append, List.take_of_length_le (by omega)]
      have e : (pre ++ (encL (r :: l)).take k).drop ((pre.length : Nat) : Int).toNat = uenc (IntKind.wrap .u64 (nr r 0)) ++ (encL l).take (k - (uenc (IntKind.wrap .u64 (nr r 0))).length) := by
        rw [Int.toNat_natCast, List.drop_left, et]
      rw [List.length_cons, rreadF, e, rnum2_enc hr.1 hr.2, if_neg (by simp)]
      simp only
      rw [et, ← List.append_assoc, ← Int.natCast_add, ← List.length_append]
      exact ih

theorem uenc_pos (v : Int) : 1 ≤ (uenc v).length := by
  unfold uenc uencF
  split <;> simp


theorem k70 (n : Int) : runF E (callOf L) 1 70 [.one (.int .i64 n)] [] = some ([.one (.bool (isClient n))], []) := by
  rw [e70]; unfold isClient
  generalize decide (n ≥ 101) = b
  cases b <;> rfl

theorem k87 (s : List UInt8) : runF E (callOf L70) 1 87 [.one (.str s)] [] = some ([.one (.bool s.isEmpty)], []) := by kernel_rfl

theorem nil_l {s : List UInt8} : s = [] ↔ s.length = 0 := by
  cases s <;> simp

theorem emp_t {s : List UInt8} : s.isEmpty = true ↔ s.length = 0 := by
  cases s <;> simp

theorem emp_f {s : List UInt8} : s.isEmpty = false ↔ s.length ≠ 0 := by
  cases s <;> simp

theorem vEff_cases (k : Int) (o f : List UInt8) (n : Int) (s : List UInt8) :
    (vEff k o f n s = 10 ∧ (k < 1 ∨ 5 < k)) ∨
    (1 ≤ k ∧ k ≤ 5 ∧ ((vEff k o f n s = 2 ∧ (o.length = 0 ∨ f.length = 0)) ∨
      (o.length ≠ 0 ∧ f.length ≠ 0 ∧ ((vEff k o f n s = 3 ∧ (16 < o.length ∨ 16 < f.length ∨ 32 < s.length)) ∨
        (o.length ≤ 16 ∧ f.length ≤ 16 ∧ s.length ≤ 32 ∧ ((vEff k o f n s = 9 ∧ ((k = 3 ∧ (n < -1000000 ∨ 1000000 < n)) ∨ ((k = 4 ∨ k = 5) ∧ n ≠ 0))) ∨
          (¬ (k = 3 ∧ (n < -1000000 ∨ 1000000 < n)) ∧ ¬ ((k = 4 ∨ k = 5) ∧ n ≠ 0) ∧ ((vEff k o f n s = 2 ∧ (k = 2 ∨ k = 3 ∨ k = 5) ∧ s.length ≠ 0) ∨ (vEff k o f n s = 0 ∧ ¬ ((k = 2 ∨ k = 3 ∨ k = 5) ∧ s.length ≠ 0)))))))))) := by
  unfold vEff
  simp only [nil_l, ne_eq]
  generalize o.length = a
  generalize f.length = b
  generalize s.length = c
  split
  · omega
  · split
    · omega
    · split
      · omega
      · split
        · omega
        · split
          · omega
          · split <;> omega

theorem k66 (k : Int) (o f : List UInt8) (n : Int) (s : List UInt8) : runF E (callOf L87) 1 66 [.agg [.int .i64 k, .str o, .str f, .int .i64 n, .str s]] [] = some ([.one (.int .i64 (vEff k o f n s))], []) := by
  rw [e66]
  have hz := vEff_cases k o f n s
  generalize vEff k o f n s = z at *
  repeat' (refine cs (fun _ => ?_) (fun _ => ?_))
  all_goals refine congrArg (fun z => some ([AV.one (AC.int .i64 z)], ([] : List Block))) ?_
  all_goals simp only [nil_l, emp_t, emp_f, Bool.not_eq_true', Bool.not_eq_false', bne_iff_ne, bne_eq_false_iff_eq, decide_eq_true_eq, beq_iff_eq, beq_eq_false_iff_ne, decide_eq_false_iff_not, ne_eq] at *
  all_goals omega

theorem k71 (k : Int) (o f : List UInt8) (n : Int) (s : List UInt8) : runF E (callOf L66) 1 71 [.agg [.int .i64 k, .str o, .str f, .int .i64 n, .str s]] [] = some ([.one (.int .i64 (vEff k o f n s))], []) := by
  rw [e71]
  have hz := vEff_cases k o f n s
  generalize vEff k o f n s = z at *
  repeat' (refine cs (fun _ => ?_) (fun _ => ?_))
  all_goals refine congrArg (fun z => some ([AV.one (AC.int .i64 z)], ([] : List Block))) ?_
  all_goals simp only [nil_l, emp_t, emp_f, Bool.not_eq_true', Bool.not_eq_false', bne_iff_ne, bne_eq_false_iff_eq, decide_eq_true_eq, beq_iff_eq, beq_eq_false_iff_ne, decide_eq_false_iff_not, ne_eq] at *
  all_goals omega

theorem k89 (k : Int) (o f : List UInt8) (n : Int) (s : List UInt8) : runF E (callOf L71) 1 89 [.agg [.int .i64 k, .str o, .str f, .int .i64 n, .str s]] [] = some ([.one (.bool (k == 1))], []) := by
  rw [e89]

theorem idxWF_range : ∀ (l : List (List Cell)) (i : Int), 0 ≤ i → (0 ≤ idxWF i l ↔ comm l = false)
  | [], i, h => by simp [idxWF, comm]
  | r :: l, i, h => by
    have ih := idxWF_range l (i + 1) (by omega)
    unfold idxWF
    unfold comm at ih ⊢
    rw [List.all_cons]
    by_cases hr : nr r 0 = 1
    · simp [hr, h]
    · rw [if_neg hr, ih]
      simp [hr]

theorem l102 (l : List (List Cell)) (hl : l.length < 4611686018427387904) : ∀ (d i : Nat), i + d = l.length →
    ∃ m, goF E (callOf L89) F102 0 m P102_0 (M102_0 l l.length i) = some ([.one (.int .i64 (idxWF i (l.drop i)))], [])
  | 0, i, hi => by
    refine ⟨1, ?_⟩
    rw [e102_0]
    have : l.drop i = [] := List.drop_eq_nil_of_le (by omega)
    rw [this, idxWF]
    exact cf (decide_eq_false (by omega)) rfl
  | d + 1, i, hi => by
    obtain ⟨m, hm⟩ := l102 l hl d (i + 1) (by omega)
    refine ⟨m + 1, ?_⟩
    rw [e102_0, drop_cons l i (by omega), idxWF, Int.toNat_natCast]
    refine ct (decide_eq_true (by omega)) (ct (inB_nat' (by omega)) ?_)
    by_cases hr : nr (Abs.rowAt l i) 0 = 1
    · rw [if_pos hr]
      exact ct (by simpa using hr) rfl
    · rw [if_neg hr, nat_wrap (n := l.length) (by omega) hl]
      refine cf (by simpa using hr) ?_
      rw [hm]
      rfl

theorem k102 (l : List (List Cell)) (hl : l.length < 4611686018427387904) : ∃ m, runF E (callOf L89) m 102 [.one (.sl false 61 l), .one (.fn 89 [])] [] = some ([.one (.int .i64 (idxW l))], []) := by
  obtain ⟨m, hm⟩ := l102 l hl l.length 0 (by omega)
  exact ⟨m + 1, by rw [e102]; exact hm⟩

theorem k88 (l : List (List Cell)) (hl : l.length < 4611686018427387904) : runF E (callOf L102) 1 88 [.one (.sl false 61 l), .one (.fn 89 [])] [] = some ([.one (.bool (!(comm l)))], []) := by
  rw [e88]
  refine ct (decide_eq_true hl) ?_
  have h := idxWF_range l 0 (by omega)
  refine congrArg (fun z => some ([AV.one (AC.bool z)], ([] : List Block))) ?_
  unfold idxW
  cases hc : comm l
  · rw [hc] at h
    exact decide_eq_true (h.2 rfl)
  · rw [hc] at h
    exact decide_eq_false (fun h0 => by cases h.1 h0)

theorem k67 (c q t : Int) (l : List (List Cell)) (hl : l.length < 4611686018427387904) : runF E (callOf L88) 1 67 [.agg [.int .i64 c, .int .i64 q, .int .i64 t, .sl false 61 l]] [] = some ([.one (.bool (comm l))], []) := by
  rw [e67]
  refine ct (decide_eq_true hl) ?_
  simp

theorem l72 (c q t : Int) (l : List (List Cell)) (hl : l.length < 4611686018427387904) : ∀ (d i : Nat), i + d = l.length →
    ∃ m, goF E (callOf L67) F72 0 m P72_0 (M72_0 i c q t l) = some ([.one (.bool (comm (l.drop i)))], [])
  | 0, i, hi => by
    refine ⟨1, ?_⟩
    rw [e72_0]
    have : l.drop i = [] := List.drop_eq_nil_of_le (by omega)
    rw [this]
    exact cf (decide_eq_false (by omega)) rfl
  | d + 1, i, hi => by
    obtain ⟨m, hm⟩ := l72 c q t l hl d (i + 1) (by omega)
    refine ⟨m + 1, ?_⟩
    rw [e72_0, drop_cons l i (by omega), Int.toNat_natCast, nat_wrap (n := l.length) (by omega) hl, hm]
    refine ct (decide_eq_true (by omega)) (ct (inB_nat' (by omega)) ?_)
    unfold comm
    rw [List.all_cons]
    generalize (nr (Abs.rowAt l i) 0 == 1) = b
    cases b <;> rfl

theorem k72 (c q t : Int) (l : List (List Cell)) (hl : l.length < 4611686018427387904) : ∃ m, runF E (callOf L67) m 72 [.agg [.int .i64 c, .int .i64 q, .int .i64 t, .sl false 61 l]] [] = some ([.one (.bool (comm l))], []) := by
  obtain ⟨m, hm⟩ := l72 c q t l hl l.length 0 (by omega)
  exact ⟨m + 1, by rw [e72]; exact hm⟩

def tailU (t : Int) (l : List (List Cell)) : Int := if (comm l = true ∧ t ≠ 0) ∨ (comm l = false ∧ 1 < l.length) then 2 else 0

theorem l40 (c q t : Int) (l : List (List Cell)) (hl : l.length ≤ 4) : ∀ (d i : Nat), i + d = l.length →
    ∃ m, goF E (callOf L72) F40 0 m P40_0 (M40_0 l l.length i c q t l) = some ([.one (.int .i64 (if vEffs (l.drop i) ≠ 0 then vEffs (l.drop i) else tailU t l))], [])
  | 0, i, hi => by
    refine ⟨1, ?_⟩
    rw [e40_0]
    have : l.drop i = [] := List.drop_eq_nil_of_le (by omega)
    rw [this, vEffs, if_neg (by simp)]
    refine cf (decide_eq_false (by omega)) (ct (decide_eq_true (by omega)) ?_)
    unfold tailU
    cases comm l
    all_goals repeat' (refine cs (fun _ => ?_) (fun _ => ?_))
    all_goals refine congrArg (fun z => some ([AV.one (AC.int .i64 z)], ([] : List Block))) ?_
    all_goals simp only [bne_iff_ne, bne_eq_false_iff_eq, decide_eq_true_eq, decide_eq_false_iff_not, Bool.not_true, Bool.not_false, Bool.true_eq_false, Bool.false_eq_true, false_and, true_and, or_false, false_or] at *
    all_goals ((repeat' split) <;> omega)
  | d + 1, i, hi => by
    obtain ⟨m, hm⟩ := l40 c q t l hl d (i + 1) (by omega)
    refine ⟨m + 1, ?_⟩
    rw [e40_0, drop_cons l i (by omega), vEffs, Int.toNat_natCast, nat_wrap (n := l.length) (by omega) (by omega), hm]
    refine ct (decide_eq_true (by omega)) (ct (inB_nat' (by omega)) ?_)
    show cond (vEffR (Abs.rowAt l i) != 0) (some ([AV.one (AC.int .i64 (vEffR (Abs.rowAt l i)))], ([] : List Block))) _ = _
    by_cases h0 : vEffR (Abs.rowAt l i) = 0
    · rw [if_neg (show ¬ vEffR (Abs.rowAt l i) ≠ 0 by simpa using h0)]
      exact cf (by simpa using h0) rfl
    · simp only [if_pos h0]
      exact ct (by simpa using h0) (by simp [h0])

theorem k40 (c q t : Int) (l : List (List Cell)) : ∃ m, runF E (callOf L72) m 40 [.agg [.int .i64 c, .int .i64 q, .int .i64 t, .sl false 61 l]] [] = some ([.one (.int .i64 (vUpd c q t l))], []) := by
  by_cases hl : l.length ≤ 4
  · obtain ⟨m, hm⟩ := l40 c q t l hl l.length 0 (by omega)
    refine ⟨m + 1, ?_⟩
    rw [e40, show (0 : Int) = ((0 : Nat) : Int) from rfl, hm, List.drop_zero]
    unfold tailU
    repeat' (refine cs (fun _ => ?_) (fun _ => ?_))
    all_goals refine congrArg (fun z => some ([AV.one (AC.int .i64 z)], ([] : List Block))) ?_
    all_goals simp only [beq_iff_eq, beq_eq_false_iff_ne, decide_eq_true_eq, decide_eq_false_iff_not, ne_eq] at *
    all_goals (unfold vUpd; (repeat' split) <;> first | rfl | omega)
  · refine ⟨1, ?_⟩
    rw [e40]
    repeat' (refine cs (fun _ => ?_) (fun _ => ?_))
    all_goals simp only [beq_iff_eq, beq_eq_false_iff_ne, decide_eq_true_eq, decide_eq_false_iff_not, ne_eq] at *
    all_goals first | (exfalso; omega) | (refine congrArg (fun z => some ([AV.one (AC.int .i64 z)], ([] : List Block))) ?_; unfold vUpd; (repeat' split) <;> first | rfl | omega)

theorem l42 (c q t : Int) (l : List (List Cell)) (hl : l.length ≤ 4) : ∀ (d i : Nat), i + d = l.length →
    ∃ m, goF E (callOf L40) F42 0 m P42_0 (M42_0 i c q t l) = some ([.one (.int .i64 (if vEffs (l.drop i) ≠ 0 then vEffs (l.drop i) else tailU t l))], [])
  | 0, i, hi => by
    refine ⟨1, ?_⟩
    rw [e42_0]
    have : l.drop i = [] := List.drop_eq_nil_of_le (by omega)
    rw [this, vEffs, if_neg (by simp)]
    refine cf (decide_eq_false (by omega)) (ct (decide_eq_true (by omega)) ?_)
    unfold tailU
    rw [decide_eq_true (show l.length < 4611686018427387904 by omega)]
    cases comm l
    all_goals repeat' (refine cs (fun _ => ?_) (fun _ => ?_))
    all_goals simp only [bne_iff_ne, bne_eq_false_iff_eq, decide_eq_true_eq, decide_eq_false_iff_not, Bool.not_true, Bool.not_false, Bool.true_eq_false, Bool.false_eq_true, false_and, true_and, or_false, false_or] at *
    all_goals refine congrArg (fun z => some ([AV.one (AC.int .i64 z)], ([] : List Block))) ?_
    all_goals ((repeat' split) <;> omega)
  | d + 1, i, hi => by
    obtain ⟨m, hm⟩ := l42 c q t l hl d (i + 1) (by omega)
    refine ⟨m + 1, ?_⟩
    rw [e42_0, drop_cons l i (by omega), vEffs, Int.toNat_natCast, nat_wrap (n := l.length) (by omega) (by omega), hm]
    refine ct (decide_eq_true (by omega)) (ct (inB_nat' (by omega)) ?_)
    show cond (vEffR (Abs.rowAt l i) != 0) (some ([AV.one (AC.int .i64 (vEffR (Abs.rowAt l i)))], ([] : List Block))) _ = _
    by_cases h0 : vEffR (Abs.rowAt l i) = 0
    · rw [if_neg (show ¬ vEffR (Abs.rowAt l i) ≠ 0 by simpa using h0)]
      exact cf (by simpa using h0) rfl
    · simp only [if_pos h0]
      exact ct (by simpa using h0) (by simp [h0])

theorem k42 (c q t : Int) (l : List (List Cell)) : ∃ m, runF E (callOf L40) m 42 [.agg [.int .i64 c, .int .i64 q, .int .i64 t, .sl false 61 l]] [] = some ([.one (.int .i64 (vUpd c q t l))], []) := by
  by_cases hl : l.length ≤ 4
  · obtain ⟨m, hm⟩ := l42 c q t l hl l.length 0 (by omega)
    refine ⟨m + 1, ?_⟩
    rw [e42, show (0 : Int) = ((0 : Nat) : Int) from rfl, hm, List.drop_zero]
    unfold tailU
    simp only [isClient]
    repeat' (refine cs (fun _ => ?_) (fun _ => ?_))
    all_goals refine congrArg (fun z => some ([AV.one (AC.int .i64 z)], ([] : List Block))) ?_
    all_goals simp only [Bool.not_eq_true', Bool.not_eq_false', Bool.and_eq_true, Bool.and_eq_false_iff, beq_iff_eq, beq_eq_false_iff_ne, decide_eq_true_eq, decide_eq_false_iff_not, ne_eq] at *
    all_goals (unfold vUpd; (repeat' split) <;> first | rfl | omega)
  · refine ⟨1, ?_⟩
    rw [e42]
    simp only [isClient]
    repeat' (refine cs (fun _ => ?_) (fun _ => ?_))
    all_goals simp only [Bool.not_eq_true', Bool.not_eq_false', Bool.and_eq_true, Bool.and_eq_false_iff, beq_iff_eq, beq_eq_false_iff_ne, decide_eq_true_eq, decide_eq_false_iff_not, ne_eq] at *
    all_goals first | (exfalso; omega) | (refine congrArg (fun z => some ([AV.one (AC.int .i64 z)], ([] : List Block))) ?_; unfold vUpd; (repeat' split) <;> first | rfl | omega)

theorem k41 (a n t : Int) (c : List (List Cell)) (b k u : Int) (d : List (List Cell)) : runF E (callOf L68) 1 41 [.agg [.int .i64 a, .int .i64 n, .int .i64 t, .sl false 61 c], .agg [.int .i64 b, .int .i64 k, .int .i64 u, .sl false 61 d]] [] = some ([.one (.int .i64 (cmpU a n b k))], []) := by
  rw [e41]
  refine ct (by simp) ?_
  refine congrArg (fun z => some ([AV.one (AC.int .i64 z)], ([] : List Block))) ?_
  simp only [orI1, nr, cellAt, Cell.toInt, cmpI, cmpU]
  (repeat' split) <;> omega

theorem k43 (a n t : Int) (c : List (List Cell)) (b k u : Int) (d : List (List Cell)) : runF E (callOf L41) 1 43 [.agg [.int .i64 a, .int .i64 n, .int .i64 t, .sl false 61 c], .agg [.int .i64 b, .int .i64 k, .int .i64 u, .sl false 61 d]] [] = some ([.one (.int .i64 (cmpU a n b k))], []) := by
  rw [e43]
  repeat' (refine cs (fun _ => ?_) (fun _ => ?_))
  all_goals refine congrArg (fun z => some ([AV.one (AC.int .i64 z)], ([] : List Block))) ?_
  all_goals simp only [beq_iff_eq, beq_eq_false_iff_ne, decide_eq_true_eq, decide_eq_false_iff_not, ne_eq] at *
  all_goals (unfold cmpU; (repeat' split) <;> omega)

theorem l51 (c d : List (List Cell)) (a n t b k u : Int) (hc : c.length < 4611686018427387904) (hd : c.length = d.length) : ∀ (e i : Nat), i + e = c.length →
    ∃ m, goF E (callOf L43) F51 0 m P51_0 (M51_0 i a n t c b k u d) = some ([.one (.bool (eqEffF (c.drop i) (d.drop i)))], [])
  | 0, i, hi => by
    refine ⟨1, ?_⟩
    rw [e51_0]
    have : c.drop i = [] := List.drop_eq_nil_of_le (by omega)
    rw [this, eqEffF]
    exact cf (decide_eq_false (by omega)) rfl
  | e + 1, i, hi => by
    obtain ⟨m, hm⟩ := l51 c d a n t b k u hc hd e (i + 1) (by omega)
    refine ⟨m + 1, ?_⟩
    rw [e51_0]
    refine ct (decide_eq_true (by omega)) (ct (inB_nat' (by omega)) (ct (inB_nat' (by omega)) ?_))
    rw [drop_cons c i (by omega), eqEffF, Int.toNat_natCast, nat_wrap (n := c.length) (by omega) hc, hm, rowAt_drop, List.drop_drop, Nat.add_zero]
    show cond (!(eqEffR (Abs.rowAt c i) (Abs.rowAt d i))) _ _ = _
    generalize eqEffR (Abs.rowAt c i) (Abs.rowAt d i) = b1
    cases b1 <;> rfl

theorem k51 (a n t : Int) (c : List (List Cell)) (b k u : Int) (d : List (List Cell)) (hc : c.length < 4611686018427387904) : ∃ m, runF E (callOf L43) m 51 [.agg [.int .i64 a, .int .i64 n, .int .i64 t, .sl false 61 c], .agg [.int .i64 b, .int .i64 k, .int .i64 u, .sl false 61 d]] [] = some ([.one (.bool (eqU a n t c b k u d))], []) := by
  unfold eqU eqEffs
  by_cases hd : c.length = d.length
  · obtain ⟨m, hm⟩ := l51 c d a n t b k u hc hd c.length 0 (by omega)
    refine ⟨m + 1, ?_⟩
    rw [e51, show (0 : Int) = ((0 : Nat) : Int) from rfl, hm, decide_eq_true hd, List.drop_zero, List.drop_zero]
    unfold bne
    rw [show ((c.length : Int) == (d.length : Int)) = true from beq_iff_eq.2 (by omega)]
    generalize (a == b) = b1
    generalize (n == k) = b2
    generalize (t == u) = b3
    cases b1 <;> cases b2 <;> cases b3 <;> rfl
  · refine ⟨1, ?_⟩
    rw [e51, decide_eq_false hd]
    unfold bne
    rw [show ((c.length : Int) == (d.length : Int)) = false from beq_eq_false_iff_ne.2 (by omega)]
    generalize (a == b) = b1
    generalize (n == k) = b2
    generalize (t == u) = b3
    cases b1 <;> cases b2 <;> cases b3 <;> rfl

theorem okStr_of {x : List (List Cell)} {s : List UInt8} (h : okStr x s = true) : x.length ≤ 3000000 ∧ s.length ≤ 100000 := by
  unfold okStr at h
  simpa using h

theorem okStr_mk {x : List (List Cell)} {s : List UInt8} (h1 : x.length ≤ 3000000) (h2 : s.length ≤ 100000) : okStr x s = true := by
  unfold okStr
  simp [h1, h2]

theorem k78 (x : List (List Cell)) (s : List UInt8) (h : okStr x s = true) : runF E (callOf L82) 1 78 [.one (.sl false 5 x), .one (.str s)] [] = some ([.one (.sl true 5 (x ++ senc s))], []) := by
  obtain ⟨h1, h2⟩ := okStr_of h
  have hu := uenc_len (s.length : Int)
  rw [e78, wrapu (n := (s.length : Int)) (by omega) (by omega)]
  refine ct (okEnc_mk (by omega) (by omega) (by omega)) (ct (fits_of (by simp; omega)) ?_)
  rw [List.append_assoc]
  rfl

theorem k83 (x : List (List Cell)) (s : List UInt8) (h : okStr x s = true) : runF E (callOf L78) 1 83 [.one (.sl false 5 x), .one (.str s)] [] = some ([.one (.sl true 5 (x ++ senc s))], []) := by
  obtain ⟨h1, h2⟩ := okStr_of h
  have hu := uenc_len (s.length : Int)
  rw [e83, wrapu (n := (s.length : Int)) (by omega) (by omega)]
  refine ct (okEnc_mk (by omega) (by omega) (by omega)) (ct (fits_of (by simp; omega)) ?_)
  rw [List.append_assoc]
  rfl

theorem k99 (v : Int) (h : okI v = true) : runF E (callOf L83) 1 99 [.one (.int .i64 v)] [] = some ([.one (.int .u64 (zig v))], []) := by
  obtain ⟨h0, h1⟩ := okI_of h
  rw [e99]
  unfold zig
  by_cases hv : 0 ≤ v
  · rw [if_pos hv, wrapu (n := v) (by omega) (by omega), wrapu (n := v * 2) (by omega) (by omega)]
    refine ct (decide_eq_true hv) ?_
    rw [Int.mul_comm]
  · rw [if_neg hv]
    refine cf (decide_eq_false hv) ?_
    rw [wrap64 (n := v + 1) (by omega) (by omega), wrap64 (n := 0 - (v + 1)) (by omega) (by omega), wrapu (n := 0 - (v + 1)) (by omega) (by omega), wrapu (n := (0 - (v + 1)) * 2) (by omega) (by omega), wrapu (by omega) (by omega)]
    rw [show (0 - (v + 1)) * 2 + 1 = -2 * v - 1 by omega]

theorem okLenI {x : List (List Cell)} {v : Int} (h : (okLen x && okI v) = true) : x.length ≤ 4000000 ∧ okI v = true := by
  unfold okLen at h
  simpa using h

theorem k79 (x : List (List Cell)) (v : Int) (h : (okLen x && okI v) = true) : runF E (callOf L99) 1 79 [.one (.sl false 5 x), .one (.int .i64 v)] [] = some ([.one (.sl true 5 (x ++ uenc (zig v)))], []) := by
  obtain ⟨h1, h2⟩ := okLenI h
  have hz := zig_range h2
  rw [e79, zigxor h2]
  exact ct (okEnc_mk h1 hz.1 hz.2) rfl

theorem k84 (x : List (List Cell)) (v : Int) (h : (okLen x && okI v) = true) : runF E (callOf L79) 1 84 [.one (.sl false 5 x), .one (.int .i64 v)] [] = some ([.one (.sl true 5 (x ++ uenc (zig v)))], []) := by
  obtain ⟨h1, h2⟩ := okLenI h
  have hz := zig_range h2
  rw [e84]
  exact ct h2 (ct (okEnc_mk h1 hz.1 hz.2) rfl)

theorem all_at {p : List Cell → Bool} {l : List (List Cell)} (h : l.all p = true) {i : Nat} (hi : i < l.length) : p (Abs.rowAt l i) = true := by
  rw [rowAt_eq hi]
  exact List.all_eq_true.1 h _ (List.getElem_mem hi)

theorem shortR_of {r : List Cell} (h : shortR r = true) : (ns r 1).length ≤ 100 ∧ (ns r 2).length ≤ 100 ∧ (ns r 4).length ≤ 100 ∧ okI (nr r 3) = true := by
  unfold shortR at h
  simpa using h

theorem effEnc_ok {r : List Cell} (h : shortR r = true) {y : List (List Cell)} (hy : y.length ≤ 1100000) :
    okStr (y ++ uenc (IntKind.wrap .u64 (nr r 0))) (ns r 1) = true ∧
    okStr ((y ++ uenc (IntKind.wrap .u64 (nr r 0))) ++ senc (ns r 1)) (ns r 2) = true ∧
    (okLen (((y ++ uenc (IntKind.wrap .u64 (nr r 0))) ++ senc (ns r 1)) ++ senc (ns r 2)) && okI (nr r 3)) = true ∧
    okStr ((((y ++ uenc (IntKind.wrap .u64 (nr r 0))) ++ senc (ns r 1)) ++ senc (ns r 2)) ++ uenc (zig (nr r 3))) (ns r 4) = true ∧ (effEnc r).length ≤ 400 := by
  obtain ⟨h1, h2, h3, h4⟩ := shortR_of h
  have a0 := uenc_len (IntKind.wrap .u64 (nr r 0))
  have a1 := senc_len (ns r 1)
  have a2 := senc_len (ns r 2)
  have a3 := uenc_len (zig (nr r 3))
  have a4 := senc_len (ns r 4)
  refine ⟨okStr_mk ?_ (by omega), okStr_mk ?_ (by omega), ?_, okStr_mk ?_ (by omega), ?_⟩
  · simp only [List.length_append]; omega
  · simp only [List.length_append]; omega
  · unfold okLen
    simp only [Bool.and_eq_true, decide_eq_true_eq, List.length_append]
    exact ⟨by omega, h4⟩
  · simp only [List.length_append]; omega
  · unfold effEnc
    simp only [List.length_append]; omega

theorem effEnc_app (y : List (List Cell)) (r : List Cell) : ((((y ++ uenc (IntKind.wrap .u64 (nr r 0))) ++ senc (ns r 1)) ++ senc (ns r 2)) ++ uenc (zig (nr r 3))) ++ senc (ns r 4) = y ++ effEnc r := by
  unfold effEnc
  simp only [List.append_assoc]

theorem okApp_of {x l : List (List Cell)} (h : okApp x l = true) : x.length ≤ 1000000 ∧ l.length ≤ 100 ∧ l.all shortR = true := by
  unfold okApp at h
  simp only [Bool.and_eq_true, decide_eq_true_eq] at h
  exact h

theorem l59b (x l : List (List Cell)) (hx : x.length ≤ 1000000) (hl : l.length ≤ 100) (hs : l.all shortR = true) : ∀ (d i : Nat) (y : List (List Cell)), i + d = l.length → y.length ≤ 100 + 400 * i →
    ∃ m, goF E (callOf L84) F59 0 m P59_1 (M59_1 x y l l.length i) = some ([.one (.sl true 5 (x ++ (y ++ effsEnc (l.drop i))))], [])
  | 0, i, y, hi, hy => by
    refine ⟨1, ?_⟩
    rw [e59_1]
    have : l.drop i = [] := List.drop_eq_nil_of_le (by omega)
    simp only [takeN_eq, Int.toNat_natCast, List.take_length, this, effsEnc, List.append_nil]
    exact cf (decide_eq_false (by omega)) (ct (inB_nat' (by omega)) (ct (by simp) (ct (fits_of (by omega)) rfl)))
  | d + 1, i, y, hi, hy => by
    have hr := wrapu_range (nr (Abs.rowAt l i) 0)
    obtain ⟨g1, g2, g3, g4, g5⟩ := effEnc_ok (r := Abs.rowAt l i) (all_at hs (by omega)) (y := y) (by omega)
    obtain ⟨m, hm⟩ := l59b x l hx hl hs d (i + 1) (y ++ effEnc (Abs.rowAt l i)) (by omega) (by simp; omega)
    refine ⟨m + 1, ?_⟩
    rw [e59_1, Int.toNat_natCast]
    refine ct (decide_eq_true (by omega)) (ct (inB_nat' (by omega)) (ct (okEnc_mk (by omega) hr.1 hr.2) (ct g1 (ct g2 (ct g3 (ct g4 ?_))))))
    rw [nat_wrap (n := l.length) (by omega) (by omega), effEnc_app, hm, drop_cons l i (by omega), effsEnc, List.append_assoc]

theorem l59a (x l : List (List Cell)) (hx : x.length ≤ 1000000) (hl : l.length ≤ 100) (hs : l.all shortR = true) (c q t : Int) (h : List (List Cell)) (hh : h.length = 4) : ∀ (d i : Nat) (y : List (List Cell)), i + d = 4 → y.length ≤ 10 * i →
    ∃ m, goF E (callOf L84) F59 0 m P59_0 (M59_0 x y h 4 i c q t l) = some ([.one (.sl true 5 (x ++ (y ++ (encL (h.drop i) ++ effsEnc l))))], [])
  | 0, i, y, hi, hy => by
    obtain ⟨m, hm⟩ := l59b x l hx hl hs l.length 0 y (by omega) (by omega)
    refine ⟨m + 1, ?_⟩
    rw [e59_0]
    have : h.drop i = [] := List.drop_eq_nil_of_le (by omega)
    rw [this, encL, List.nil_append]
    exact cf (decide_eq_false (by omega)) hm
  | d + 1, i, y, hi, hy => by
    have hr := wrapu_range (nr (Abs.rowAt h i) 0)
    have hu := uenc_len (IntKind.wrap .u64 (nr (Abs.rowAt h i) 0))
    obtain ⟨m, hm⟩ := l59a x l hx hl hs c q t h hh d (i + 1) (y ++ uenc (IntKind.wrap .u64 (nr (Abs.rowAt h i) 0))) (by omega) (by simp; omega)
    refine ⟨m + 1, ?_⟩
    rw [e59_0, Int.toNat_natCast]
    refine ct (decide_eq_true (by omega)) (ct (inB_nat' (by omega)) (ct (okEnc_mk (by omega) hr.1 hr.2) ?_))
    rw [nat_wrap (n := 4) (by omega) (by omega), hm, drop_cons h i (by omega), encL]
    simp only [List.append_assoc]

theorem k59 (x : List (List Cell)) (c q t : Int) (l : List (List Cell)) (h : okApp x l = true) : ∃ m, runF E (callOf L84) m 59 [.one (.sl false 5 x), .agg [.int .i64 c, .int .i64 q, .int .i64 t, .sl false 61 l]] [] = some ([.one (.sl true 5 (x ++ encU c q t l))], []) := by
  obtain ⟨h1, h2, h3⟩ := okApp_of h
  obtain ⟨m, hm⟩ := l59a x l h1 h2 h3 c q t (headU c q t l.length) rfl 4 0 [] rfl (by simp)
  exact ⟨m + 1, by rw [e59]; exact hm⟩

theorem l59bc (x l : List (List Cell)) (hx : x.length ≤ 1000000) (hl : l.length ≤ 100) (hs : l.all shortR = true) : ∀ (d i : Nat) (y : List (List Cell)), i + d = l.length → y.length ≤ 100 + 400 * i →
    ∃ m, goF E (callOf L84) F59 0 m P59_1_c1 (M59_1_c1 x y l l.length i) = some ([.one (.sl true 5 (x ++ (y ++ effsEnc (l.drop i))))], [])
  | 0, i, y, hi, hy => by
    refine ⟨1, ?_⟩
    rw [e59_1_c1]
    have : l.drop i = [] := List.drop_eq_nil_of_le (by omega)
    simp only [takeN_eq, Int.toNat_natCast, List.take_length, this, effsEnc, List.append_nil]
    exact cf (decide_eq_false (by omega)) (ct (inB_nat' (by omega)) (ct (by simp) (ct (fits_of (by omega)) rfl)))
  | d + 1, i, y, hi, hy => by
    have hr := wrapu_range (nr (Abs.rowAt l i) 0)
    obtain ⟨g1, g2, g3, g4, g5⟩ := effEnc_ok (r := Abs.rowAt l i) (all_at hs (by omega)) (y := y) (by omega)
    obtain ⟨m, hm⟩ := l59bc x l hx hl hs d (i + 1) (y ++ effEnc (Abs.rowAt l i)) (by omega) (by simp; omega)
    refine ⟨m + 1, ?_⟩
    rw [e59_1_c1, Int.toNat_natCast]
    refine ct (decide_eq_true (by omega)) (ct (inB_nat' (by omega)) (ct (okEnc_mk (by omega) hr.1 hr.2) (ct g1 (ct g2 (ct g3 (ct g4 ?_))))))
    rw [nat_wrap (n := l.length) (by omega) (by omega), effEnc_app, hm, drop_cons l i (by omega), effsEnc, List.append_assoc]

theorem l59ac (x l : List (List Cell)) (hx : x.length ≤ 1000000) (hl : l.length ≤ 100) (hs : l.all shortR = true) (c q t : Int) (h : List (List Cell)) (hh : h.length = 4) : ∀ (d i : Nat) (y : List (List Cell)), i + d = 4 → y.length ≤ 10 * i →
    ∃ m, goF E (callOf L84) F59 0 m P59_0_c1 (M59_0_c1 x y h 4 i c q t l) = some ([.one (.sl true 5 (x ++ (y ++ (encL (h.drop i) ++ effsEnc l))))], [])
  | 0, i, y, hi, hy => by
    obtain ⟨m, hm⟩ := l59bc x l hx hl hs l.length 0 y (by omega) (by omega)
    refine ⟨m + 1, ?_⟩
    rw [e59_0_c1]
    have : h.drop i = [] := List.drop_eq_nil_of_le (by omega)
    rw [this, encL, List.nil_append]
    exact cf (decide_eq_false (by omega)) hm
  | d + 1, i, y, hi, hy => by
    have hr := wrapu_range (nr (Abs.rowAt h i) 0)
    have hu := uenc_len (IntKind.wrap .u64 (nr (Abs.rowAt h i) 0))
    obtain ⟨m, hm⟩ := l59ac x l hx hl hs c q t h hh d (i + 1) (y ++ uenc (IntKind.wrap .u64 (nr (Abs.rowAt h i) 0))) (by omega) (by simp; omega)
    refine ⟨m + 1, ?_⟩
    rw [e59_0_c1, Int.toNat_natCast]
    refine ct (decide_eq_true (by omega)) (ct (inB_nat' (by omega)) (ct (okEnc_mk (by omega) hr.1 hr.2) ?_))
    rw [nat_wrap (n := 4) (by omega) (by omega), hm, drop_cons h i (by omega), encL]
    simp only [List.append_assoc]

theorem k59c (c q t : Int) (l : List (List Cell)) (h : okApp [] l = true) : ∃ m, runF E (callOf L84) m 59 [.one .nils, .agg [.int .i64 c, .int .i64 q, .int .i64 t, .sl false 61 l]] [] = some ([.one (.sl true 5 (encU c q t l))], []) := by
  obtain ⟨h1, h2, h3⟩ := okApp_of h
  obtain ⟨m, hm⟩ := l59ac [] l h1 h2 h3 c q t (headU c q t l.length) rfl 4 0 [] rfl (by simp)
  exact ⟨m + 1, by rw [e59_c1]; exact hm⟩

theorem l63 (l : List (List Cell)) (hl : l.length ≤ 100) (hs : l.all shortR = true) (c q t : Int) : ∀ (d i : Nat) (y : List (List Cell)), i + d = l.length → y.length ≤ 1000100 + 400 * i →
    ∃ m, goF E (callOf L62) F63 0 m P63_0 (M63_0 y i c q t l) = some ([.one (.sl false 5 (y ++ effsEnc (l.drop i)))], [])
  | 0, i, y, hi, hy => by
    refine ⟨1, ?_⟩
    rw [e63_0]
    have : l.drop i = [] := List.drop_eq_nil_of_le (by omega)
    rw [this, effsEnc, List.append_nil]
    exact cf (decide_eq_false (by omega)) rfl
  | d + 1, i, y, hi, hy => by
    obtain ⟨g1, g2, g3, g4, g5⟩ := effEnc_ok (r := Abs.rowAt l i) (all_at hs (by omega)) (y := y) (by omega)
    obtain ⟨m, hm⟩ := l63 l hl hs c q t d (i + 1) (y ++ effEnc (Abs.rowAt l i)) (by omega) (by simp; omega)
    refine ⟨m + 1, ?_⟩
    have e1 : encL [[Cell.int .i64 (nr (Abs.rowAt l i) 0)]] = uenc (IntKind.wrap .u64 (nr (Abs.rowAt l i) 0)) := by
      rw [encL, encL, List.append_nil]
      rfl
    rw [e63_0, Int.toNat_natCast, e1]
    refine ct (decide_eq_true (by omega)) (ct (inB_nat' (by omega)) (ct (okNums_mk (by omega) (by simp)) (ct g1 (ct g2 (ct g3 (ct g4 ?_))))))
    rw [nat_wrap (n := l.length) (by omega) (by omega), effEnc_app, hm, drop_cons l i (by omega), effsEnc, List.append_assoc]

theorem k63 (x : List (List Cell)) (c q t : Int) (l : List (List Cell)) (h : okApp x l = true) : ∃ m, runF E (callOf L62) m 63 [.one (.sl false 5 x), .agg [.int .i64 c, .int .i64 q, .int .i64 t, .sl false 61 l]] [] = some ([.one (.sl false 5 (x ++ encU c q t l))], []) := by
  obtain ⟨h1, h2, h3⟩ := okApp_of h
  have hu := encL_len (headU c q t l.length)
  have h4 : (headU c q t l.length).length = 4 := rfl
  obtain ⟨m, hm⟩ := l63 l h2 h3 c q t l.length 0 (x ++ encL (headU c q t l.length)) (by omega) (by simp; omega)
  refine ⟨m + 1, ?_⟩
  rw [e63]
  refine ct (okNums_mk (by omega) (by simp)) (Eq.trans hm ?_)
  rw [List.drop_zero, List.append_assoc]
  rfl

theorem l63c (l : List (List Cell)) (hl : l.length ≤ 100) (hs : l.all shortR = true) (c q t : Int) : ∀ (d i : Nat) (y : List (List Cell)), i + d = l.length → y.length ≤ 1000100 + 400 * i →
    ∃ m, goF E (callOf L62) F63 0 m P63_0_c1 (M63_0_c1 y i c q t l) = some ([.one (.sl false 5 (y ++ effsEnc (l.drop i)))], [])
  | 0, i, y, hi, hy => by
    refine ⟨1, ?_⟩
    rw [e63_0_c1]
    have : l.drop i = [] := List.drop_eq_nil_of_le (by omega)
    rw [this, effsEnc, List.append_nil]
    exact cf (decide_eq_false (by omega)) rfl
  | d + 1, i, y, hi, hy => by
    obtain ⟨g1, g2, g3, g4, g5⟩ := effEnc_ok (r := Abs.rowAt l i) (all_at hs (by omega)) (y := y) (by omega)
    obtain ⟨m, hm⟩ := l63c l hl hs c q t d (i + 1) (y ++ effEnc (Abs.rowAt l i)) (by omega) (by simp; omega)
    refine ⟨m + 1, ?_⟩
    have e1 : encL [[Cell.int .i64 (nr (Abs.rowAt l i) 0)]] = uenc (IntKind.wrap .u64 (nr (Abs.rowAt l i) 0)) := by
      rw [encL, encL, List.append_nil]
      rfl
    rw [e63_0_c1, Int.toNat_natCast, e1]
    refine ct (decide_eq_true (by omega)) (ct (inB_nat' (by omega)) (ct (okNums_mk (by omega) (by simp)) (ct g1 (ct g2 (ct g3 (ct g4 ?_))))))
    rw [nat_wrap (n := l.length) (by omega) (by omega), effEnc_app, hm, drop_cons l i (by omega), effsEnc, List.append_assoc]

theorem k63c (c q t : Int) (l : List (List Cell)) (h : okApp [] l = true) : ∃ m, runF E (callOf L62) m 63 [.one .nils, .agg [.int .i64 c, .int .i64 q, .int .i64 t, .sl false 61 l]] [] = some ([.one (.sl false 5 (encU c q t l))], []) := by
  obtain ⟨h1, h2, h3⟩ := okApp_of h
  have hu := encL_len (headU c q t l.length)
  have h4 : (headU c q t l.length).length = 4 := rfl
  obtain ⟨m, hm⟩ := l63c l h2 h3 c q t l.length 0 ([] ++ encL (headU c q t l.length)) (by omega) (by simp; omega)
  refine ⟨m + 1, ?_⟩
  rw [e63_c1]
  refine ct (okNums_mk (by simp) (by simp)) (Eq.trans hm ?_)
  rw [List.drop_zero, List.nil_append]
  rfl

theorem udecF_zero : ∀ (k : Nat) (i acc : Int) (l : List (List Cell)), (udecF k i acc l).2.2 ≠ 0 → (udecF k i acc l).1 = 0 ∧ (udecF k i acc l).2.1 = 0
  | 0, _, _, _, _ => by simp [udecF]
  | k + 1, _, _, [], _ => by simp [udecF]
  | k + 1, i, acc, r :: rs, h => by
    unfold udecF at h ⊢
    split
    · simp
    · rename_i h1
      rw [if_neg h1] at h
      split
      · rename_i h2
        rw [if_pos h2] at h
        split
        · simp
        · rename_i h3
          rw [if_neg h3] at h
          simp at h
      · rename_i h2
        rw [if_neg h2] at h
        exact udecF_zero k _ _ rs h

/-- the results of a decoder as the code hands them back -/
def rdI (r : Int × Int × Int) : List AV × List Block := ([.one (.int .i64 r.1), .one (.int .i64 r.2.1), .one (.int .i64 r.2.2)], [])

def rdS (r : List UInt8 × Int × Int) : List AV × List Block := ([.one (.str r.1), .one (.int .i64 r.2.1), .one (.int .i64 r.2.2)], [])

theorem k105 (x : List (List Cell)) (hx : okRd x = true) : runF E (callOf L64) 1 105 [.one (.sl false 5 x)] [] = some (rdI (idec x)) := by
  rw [e105]
  refine ct hx ?_
  unfold idec
  by_cases he : (udec x).2.2 = 0
  · rw [if_neg (by simpa using he)]
    refine cf (by simpa using he) ?_
    rw [unzigxor (udec_bound (okRd_of hx).1 he).2.2 (udec_lt (okRd_of hx).1 he)]
    rfl
  · rw [if_pos he]
    exact ct (by simpa using he) rfl

theorem k107 (x : List (List Cell)) (hx : okRd x = true) : runF E (callOf L105) 1 107 [.one (.sl false 5 x)] [] = some (rdI (idec x)) := by
  rw [e107]
  refine ct hx ?_
  unfold idec
  by_cases he : (udec x).2.2 = 0
  · rw [if_neg (by simpa using he)]
    refine cf (by simpa using he) ?_
    have h0 := (udec_bound (okRd_of hx).1 he).2.2
    have h1 := udec_lt (okRd_of hx).1 he
    unfold unzig
    rw [Int.tmod_eq_emod_of_nonneg h0, Int.tdiv_eq_ediv_of_nonneg h0, wrapu (by omega) (by omega), wrap64 (n := (udec x).1 / 2) (by omega) (by omega)]
    by_cases h2 : (udec x).1 % 2 = 0
    · rw [if_pos h2]
      exact ct (by simpa using h2) rfl
    · rw [if_neg h2]
      refine cf (by simpa using h2) ?_
      rw [wrap64 (n := 0 - (udec x).1 / 2) (by omega) (by omega), wrap64 (by omega) (by omega), Int.zero_sub]
      rfl
  · rw [if_pos he]
    exact ct (by simpa using he) rfl

theorem k104 (x : List (List Cell)) (hx : okRd x = true) : runF E (callOf L107) 1 104 [.one (.sl false 5 x)] [] = some (rdS (sdec x)) := by
  rw [e104]
  refine ct hx ?_
  unfold sdec
  have hl := (okRd_of hx).2
  by_cases he : (udec x).2.2 = 0
  · rw [if_neg (by simpa using he)]
    refine cf (by simpa using he) ?_
    have hb := udec_bound (okRd_of hx).1 he
    rw [wrap64 (n := (x.length : Int) - (udec x).2.1) (by omega) (by omega), wrapu (by omega) (by omega)]
    by_cases hv : (x.length : Int) - (udec x).2.1 < (udec x).1
    · rw [if_pos hv]
      exact ct (decide_eq_true hv) rfl
    · rw [if_neg hv, wrap64 (n := (udec x).1) (by omega) (by omega), wrap64 (n := (udec x).2.1 + (udec x).1) (by omega) (by omega)]
      refine cf (decide_eq_false hv) (ct (inB_of (by omega) (by omega)) (ct (inB_of (by omega) (by omega)) ?_))
      unfold subL
      rw [takeN_eq, dropN_eq, List.drop_take, show ((udec x).2.1 + (udec x).1).toNat - (udec x).2.1.toNat = (udec x).1.toNat by omega]
      rfl
  · rw [if_pos he]
    exact ct (by simpa using he) rfl

theorem k106 (x : List (List Cell)) (hx : okRd x = true) : runF E (callOf L104) 1 106 [.one (.sl false 5 x)] [] = some (rdS (sdec x)) := by
  rw [e106]
  refine ct hx ?_
  unfold sdec
  have hl := (okRd_of hx).2
  by_cases he : (udec x).2.2 = 0
  · rw [if_neg (by simpa using he)]
    refine cf (by simpa using he) ?_
    have hb := udec_bound (okRd_of hx).1 he
    rw [wrap64 (n := (x.length : Int) - (udec x).2.1) (by omega) (by omega), wrapu (by omega) (by omega)]
    by_cases hv : (x.length : Int) - (udec x).2.1 < (udec x).1
    · rw [if_pos hv]
      exact ct (decide_eq_true hv) rfl
    · rw [if_neg hv, wrap64 (n := (udec x).1) (by omega) (by omega), wrap64 (n := (udec x).2.1 + (udec x).1) (by omega) (by omega)]
      refine cf (decide_eq_false hv) (ct (inB_of (by omega) (by omega)) (ct (inB_of (by omega) (by omega)) ?_))
      unfold subL
      rw [takeN_eq, dropN_eq, List.drop_take, show ((udec x).2.1 + (udec x).1).toNat - (udec x).2.1.toNat = (udec x).1.toNat by omega]
      rfl
  · rw [if_pos he]
    exact ct (by simpa using he) rfl

theorem sdec_bound {x : List (List Cell)} (hx : okRd x = true) : 0 ≤ (sdec x).2.1 ∧ (sdec x).2.1 ≤ x.length := by
  unfold sdec
  split
  · simp
  · rename_i he
    have hb := udec_bound (okRd_of hx).1 (by simpa using he)
    split
    · simp
    · simp only
      omega

theorem idec_bound {x : List (List Cell)} (hx : okRd x = true) : 0 ≤ (idec x).2.1 ∧ (idec x).2.1 ≤ x.length := by
  unfold idec
  split
  · simp
  · rename_i he
    have hb := udec_bound (okRd_of hx).1 (by simpa using he)
    simp only
    omega

theorem okTake_mk {o n : Int} (h0 : 0 ≤ o) (h1 : 0 ≤ n) (h2 : o + n ≤ 4611686018427387904) : okTake o n = true := by
  unfold okTake
  simp [h0, h1, h2]

theorem k96 (n z : Int) (b : List (List Cell)) (o e : Int) (h : okTake o n = true) : runF E (callOf L85) 1 96 [.one (.ptr 0 0), .one (.int .i64 n), .one (.int .i64 z)] [.var [.sl false 5 b, .int .i64 o, .int .i64 e]] =
    some ([], [.var [.sl false 5 b, .int .i64 (o + n), .int .i64 z]]) := by
  unfold okTake at h
  simp only [Bool.and_eq_true, decide_eq_true_eq] at h
  rw [e96, wrap64 (by omega) (by omega)]

theorem rstep_at {α : Type} {z : α} {d : List (List Cell) → α × Int × Int} (hd : ∀ y, okRd y = true → 0 ≤ (d y).2.1 ∧ (d y).2.1 ≤ y.length) {b : List (List Cell)} {o e : Int} (h : okAt b o = true) : okAt b (rstep z d b o e).2.1 = true := by
  obtain ⟨h1, h2, h3⟩ := okAt_of h
  unfold rstep
  split
  · exact h
  · have := hd _ (okRd_drop h1 o.toNat)
    rw [List.length_drop] at this
    exact okAt_mk h1 (by simp only; omega) (by simp only; omega)

theorem rtext_at {b : List (List Cell)} {o e : Int} (h : okAt b o = true) : okAt b (rtext b o e).2.1 = true := rstep_at (fun _ hy => sdec_bound hy) h

theorem rint_at {b : List (List Cell)} {o e : Int} (h : okAt b o = true) : okAt b (rint b o e).2.1 = true := rstep_at (fun _ hy => idec_bound hy) h

theorem k80 (b : List (List Cell)) (o e : Int) (h : okAt b o = true) : runF E (callOf L96) 1 80 [.one (.ptr 0 0)] [.var [.sl false 5 b, .int .i64 o, .int .i64 e]] =
    some ([.one (.int .i64 (rnum b o e).1)], [.var [.sl false 5 b, .int .i64 (rnum b o e).2.1, .int .i64 (rnum b o e).2.2]]) := by
  obtain ⟨h1, h2, h3⟩ := okAt_of h
  have h4 := okRd_drop h1 o.toNat
  rw [e80]
  unfold rnum
  by_cases he : e = 0
  · subst he
    rw [if_neg (by simp)]
    refine cf (by simp) (ct (inB_of h2 (by omega)) ?_)
    rw [dropN_eq]
    refine ct h4 ?_
    have hl := (okRd_of h1).2
    by_cases hd : (udec (b.drop o.toNat)).2.2 = 0
    · refine ct (by simpa using hd) ?_
      have hb := udec_bound (okRd_of h4).1 hd
      rw [List.length_drop] at hb
      by_cases hbig : 2147483647 < (udec (b.drop o.toNat)).1
      · refine ct (decide_eq_true hbig) (ct (okTake_mk h2 (by omega) (by omega)) ?_)
        have e : rnum2 (b.drop o.toNat) = (0, 0, 9) := by
          unfold rnum2
          rw [if_neg (by simpa using hd), if_pos hbig]
        rw [e, Int.add_zero]
        rfl
      · refine cf (decide_eq_false hbig) (ct (okTake_mk h2 (by omega) (by omega)) ?_)
        have e : rnum2 (b.drop o.toNat) = udec (b.drop o.toNat) := by
          unfold rnum2
          rw [if_neg (by simpa using hd), if_neg hbig]
        rw [e, if_neg (by simpa using hd), wrap64 (by omega) (by omega), hd]
    · have hz : (udec (b.drop o.toNat)).1 = 0 ∧ (udec (b.drop o.toNat)).2.1 = 0 := udecF_zero 10 0 0 _ hd
      refine cf (by simpa using hd) (ct (okTake_mk h2 (by omega) (by omega)) ?_)
      have e : rnum2 (b.drop o.toNat) = (0, 0, (udec (b.drop o.toNat)).2.2) := by
        unfold rnum2
        rw [if_pos hd]
      rw [e, if_pos (by simpa using hd), hz.1, hz.2, Int.add_zero]
      rfl
  · rw [if_pos he]
    exact ct (by simpa using he) rfl

theorem k97 (b : List (List Cell)) (o e : Int) (h : okAt b o = true) : runF E (callOf L80) 1 97 [.one (.ptr 0 0)] [.var [.sl false 5 b, .int .i64 o, .int .i64 e]] =
    some ([.one (.str (rtext b o e).1)], [.var [.sl false 5 b, .int .i64 (rtext b o e).2.1, .int .i64 (rtext b o e).2.2]]) := by
  obtain ⟨h1, h2, h3⟩ := okAt_of h
  have h4 := okRd_drop h1 o.toNat
  rw [e97, dropN_eq]
  unfold rtext rstep
  by_cases he : e = 0
  · subst he
    rw [if_neg (by simp)]
    have := sdec_bound h4
    rw [List.length_drop] at this
    have hl := (okRd_of h1).2
    exact cf (by simp) (ct (inB_of h2 (by omega)) (ct h4 (ct (okTake_mk h2 (by omega) (by omega)) rfl)))
  · rw [if_pos he]
    exact ct (by simpa using he) rfl

theorem k98 (b : List (List Cell)) (o e : Int) (h : okAt b o = true) : runF E (callOf L97) 1 98 [.one (.ptr 0 0)] [.var [.sl false 5 b, .int .i64 o, .int .i64 e]] =
    some ([.one (.int .i64 (rint b o e).1)], [.var [.sl false 5 b, .int .i64 (rint b o e).2.1, .int .i64 (rint b o e).2.2]]) := by
  obtain ⟨h1, h2, h3⟩ := okAt_of h
  have h4 := okRd_drop h1 o.toNat
  rw [e98, dropN_eq]
  unfold rint rstep
  by_cases he : e = 0
  · subst he
    rw [if_neg (by simp)]
    have := idec_bound h4
    rw [List.length_drop] at this
    have hl := (okRd_of h1).2
    exact cf (by simp) (ct (inB_of h2 (by omega)) (ct h4 (ct (okTake_mk h2 (by omega) (by omega)) rfl)))
  · rw [if_pos he]
    exact ct (by simpa using he) rfl

theorem reff_at {b : List (List Cell)} {o e : Int} (h : okAt b o = true) : okAt b (reff b o e).2.1 = true := rtext_at (rint_at (rtext_at (rtext_at (rnum_at h))))

theorem k81 (b : List (List Cell)) (o e : Int) (h : okAt b o = true) : runF E (callOf L98) 1 81 [.one (.ptr 0 0)] [.var [.sl false 5 b, .int .i64 o, .int .i64 e]] =
    some ([.agg [.int .i64 (reff b o e).1.1, .str (reff b o e).1.2.1, .str (reff b o e).1.2.2.1, .int .i64 (reff b o e).1.2.2.2.1, .str (reff b o e).1.2.2.2.2]], [.var [.sl false 5 b, .int .i64 (reff b o e).2.1, .int .i64 (reff b o e).2.2]]) := by
  rw [e81]
  have a1 := rnum_at (e := e) h
  have a2 := rtext_at (e := (rnum b o e).2.2) a1
  have a3 := rtext_at (e := (rtext b (rnum b o e).2.1 (rnum b o e).2.2).2.2) a2
  exact ct h (ct a1 (ct a2 (ct a3 (ct (rint_at a3) rfl))))

theorem cmpU_cases (a n b m : Int) : (cmpU a n b m = -1 ∧ (a < b ∨ (a = b ∧ n < m))) ∨ (cmpU a n b m = 0 ∧ a = b ∧ n = m) ∨ (cmpU a n b m = 1 ∧ (b < a ∨ (a = b ∧ m < n))) := by
  unfold cmpU
  (repeat' split) <;> omega

theorem befU_iff (t a n u b m : Int) : befU t a n u b m = true ↔ t < u ∨ (t = u ∧ (a < b ∨ (a = b ∧ n < m))) := by
  have := cmpU_cases a n b m
  unfold befU
  simp only [Bool.or_eq_true, Bool.and_eq_true, decide_eq_true_eq]
  omega

theorem befU_not (t a n u b m : Int) : befU t a n u b m = false ↔ ¬ (t < u ∨ (t = u ∧ (a < b ∨ (a = b ∧ n < m)))) := by
  rw [← befU_iff]
  simp

theorem eqEffF_refl : ∀ c : List (List Cell), eqEffF c c = true
  | [] => rfl
  | r :: c => by
    have : eqEffR r r = true := by simp [eqEffR]
    rw [eqEffF]
    show (eqEffR r r && eqEffF c c) = true
    rw [this, eqEffF_refl c]
    rfl

theorem eqU_refl (a n t : Int) (c : List (List Cell)) : eqU a n t c a n t c = true := by
  simp [eqU, eqEffs, eqEffF_refl]

theorem rnum2_n {x : List (List Cell)} (hx : okRd x = true) : 0 ≤ (rnum2 x).2.1 ∧ (rnum2 x).2.1 ≤ x.length := by
  by_cases h : (rnum2 x).2.2 = 0
  · have := rnum2_bound (okRd_of hx).1 h
    omega
  · unfold rnum2 at h ⊢
    split
    · simp
    · split
      · simp
      · rename_i h1 h2
        rw [if_neg h1, if_neg h2] at h
        exact absurd h h1

theorem rstep_ok {α : Type} {z : α} {d : List (List Cell) → α × Int × Int} {b : List (List Cell)} {o : Int} (h : (d (b.drop o.toNat)).2.2 = 0) : rstep z d b o 0 = ((d (b.drop o.toNat)).1, o + (d (b.drop o.toNat)).2.1, 0) := by
  unfold rstep
  rw [if_neg (by simp), h]

theorem rstep_e {α : Type} {z : α} {d : List (List Cell) → α × Int × Int} {b : List (List Cell)} {o e : Int} (h : e ≠ 0) : rstep z d b o e = (z, o, e) := by
  unfold rstep
  rw [if_pos h]

theorem rstep_err {α : Type} {z : α} {d : List (List Cell) → α × Int × Int} {b : List (List Cell)} {o : Int} : (rstep z d b o 0).2.2 = (d (b.drop o.toNat)).2.2 := by
  unfold rstep
  rw [if_neg (by simp)]

theorem reff_deff {b : List (List Cell)} {o : Int} (h : okAt b o = true) :
    (deff (b.drop o.toNat)).2.2 = (reff b o 0).2.2 ∧ ((deff (b.drop o.toNat)).2.2 = 0 → reff b o 0 = ((deff (b.drop o.toNat)).1, o + (deff (b.drop o.toNat)).2.1, 0)) := by
  obtain ⟨hb, h0, h1⟩ := okAt_of h
  have hy := okRd_drop hb o.toNat
  have hd : ∀ n : Int, 0 ≤ n → (b.drop o.toNat).drop n.toNat = b.drop (o + n).toNat := by
    intro n hn
    rw [List.drop_drop]
    congr 1
    omega
  generalize b.drop o.toNat = y at hy hd
  have hr1 : rnum b o 0 = if (rnum2 y).2.2 ≠ 0 then (0, o, (rnum2 y).2.2) else ((rnum2 y).1, o + (rnum2 y).2.1, 0) := by
    have := hd 0 (by omega)
    simp only [Int.toNat_zero, List.drop_zero, Int.add_zero] at this
    unfold rnum
    rw [if_neg (by simp), ← this]
  have n1 := rnum2_n hy
  unfold deff reff
  simp only
  generalize rnum2 y = q1 at *
  have n2 := sdec_bound (okRd_drop hy q1.2.1.toNat)
  rw [List.length_drop] at n2
  have d1 := hd q1.2.1 n1.1
  by_cases e1 : q1.2.2 = 0
  rotate_left
  · have r1 : rnum b o 0 = (0, o, q1.2.2) := by rw [hr1, if_pos e1]
    rw [if_pos e1, r1]
    unfold rtext rint
    simp only [rstep_e e1]
    exact ⟨by trivial, fun h => absurd h e1⟩
  have r1 : rnum b o 0 = (q1.1, o + q1.2.1, 0) := by rw [hr1, if_neg (by simpa using e1)]
  rw [if_neg (by simpa using e1), r1]
  simp only
  by_cases e2 : (sdec (y.drop q1.2.1.toNat)).2.2 = 0
  rotate_left
  · rw [if_pos e2]
    have r2 : (rtext b (o + q1.2.1) 0).2.2 = (sdec (y.drop q1.2.1.toNat)).2.2 := by
      unfold rtext
      rw [rstep_err, d1]
    have r2' : (rtext b (o + q1.2.1) 0).2.2 ≠ 0 := by rw [r2]; exact e2
    generalize rtext b (o + q1.2.1) 0 = p2 at *
    unfold rtext rint
    simp only [rstep_e r2']
    exact ⟨r2.symm, fun h => absurd h e2⟩
  rw [if_neg (by simpa using e2)]
  have r2 : rtext b (o + q1.2.1) 0 = ((sdec (y.drop q1.2.1.toNat)).1, o + q1.2.1 + (sdec (y.drop q1.2.1.toNat)).2.1, 0) := by
    unfold rtext
    rw [rstep_ok (by rw [← d1]; exact e2), d1]
  rw [r2]
  simp only
  generalize sdec (y.drop q1.2.1.toNat) = q2 at *
  have n3 := sdec_bound (okRd_drop hy (q1.2.1 + q2.2.1).toNat)
  rw [List.length_drop] at n3
  have d2 := hd (q1.2.1 + q2.2.1) (by omega)
  rw [← Int.add_assoc] at d2
  by_cases e3 : (sdec (y.drop (q1.2.1 + q2.2.1).toNat)).2.2 = 0
  rotate_left
  · rw [if_pos e3]
    have r3 : (rtext b (o + q1.2.1 + q2.2.1) 0).2.2 = (sdec (y.drop (q1.2.1 + q2.2.1).toNat)).2.2 := by
      unfold rtext
      rw [rstep_err, d2]
    have r3' : (rtext b (o + q1.2.1 + q2.2.1) 0).2.2 ≠ 0 := by rw [r3]; exact e3
    generalize rtext b (o + q1.2.1 + q2.2.1) 0 = p3 at *
    unfold rtext rint
    simp only [rstep_e r3']
    exact ⟨r3.symm, fun h => absurd h e3⟩
  rw [if_neg (by simpa using e3)]
  have r3 : rtext b (o + q1.2.1 + q2.2.1) 0 = ((sdec (y.drop (q1.2.1 + q2.2.1).toNat)).1, o + q1.2.1 + q2.2.1 + (sdec (y.drop (q1.2.1 + q2.2.1).toNat)).2.1, 0) := by
    unfold rtext
    rw [rstep_ok (by rw [← d2]; exact e3), d2]
  rw [r3]
  simp only
  generalize sdec (y.drop (q1.2.1 + q2.2.1).toNat) = q3 at *
  have n4 := idec_bound (okRd_drop hy (q1.2.1 + q2.2.1 + q3.2.1).toNat)
  rw [List.length_drop] at n4
  have d3 := hd (q1.2.1 + q2.2.1 + q3.2.1) (by omega)
  rw [← Int.add_assoc, ← Int.add_assoc] at d3
  by_cases e4 : (idec (y.drop (q1.2.1 + q2.2.1 + q3.2.1).toNat)).2.2 = 0
  rotate_left
  · rw [if_pos e4]
    have r4 : (rint b (o + q1.2.1 + q2.2.1 + q3.2.1) 0).2.2 = (idec (y.drop (q1.2.1 + q2.2.1 + q3.2.1).toNat)).2.2 := by
      unfold rint
      rw [rstep_err, d3]
    have r4' : (rint b (o + q1.2.1 + q2.2.1 + q3.2.1) 0).2.2 ≠ 0 := by rw [r4]; exact e4
    generalize rint b (o + q1.2.1 + q2.2.1 + q3.2.1) 0 = p4 at *
    unfold rtext
    simp only [rstep_e r4']
    exact ⟨r4.symm, fun h => absurd h e4⟩
  rw [if_neg (by simpa using e4)]
  have r4 : rint b (o + q1.2.1 + q2.2.1 + q3.2.1) 0 = ((idec (y.drop (q1.2.1 + q2.2.1 + q3.2.1).toNat)).1, o + q1.2.1 + q2.2.1 + q3.2.1 + (idec (y.drop (q1.2.1 + q2.2.1 + q3.2.1).toNat)).2.1, 0) := by
    unfold rint
    rw [rstep_ok (by rw [← d3]; exact e4), d3]
  rw [r4]
  simp only
  generalize idec (y.drop (q1.2.1 + q2.2.1 + q3.2.1).toNat) = q4 at *
  have d4 := hd (q1.2.1 + q2.2.1 + q3.2.1 + q4.2.1) (by omega)
  rw [← Int.add_assoc, ← Int.add_assoc, ← Int.add_assoc] at d4
  by_cases e5 : (sdec (y.drop (q1.2.1 + q2.2.1 + q3.2.1 + q4.2.1).toNat)).2.2 = 0
  rotate_left
  · rw [if_pos e5]
    have r5 : (rtext b (o + q1.2.1 + q2.2.1 + q3.2.1 + q4.2.1) 0).2.2 = (sdec (y.drop (q1.2.1 + q2.2.1 + q3.2.1 + q4.2.1).toNat)).2.2 := by
      unfold rtext
      rw [rstep_err, d4]
    exact ⟨r5.symm, fun h => absurd h e5⟩
  rw [if_neg (by simpa using e5)]
  have r5 : rtext b (o + q1.2.1 + q2.2.1 + q3.2.1 + q4.2.1) 0 = ((sdec (y.drop (q1.2.1 + q2.2.1 + q3.2.1 + q4.2.1).toNat)).1, o + q1.2.1 + q2.2.1 + q3.2.1 + q4.2.1 + (sdec (y.drop (q1.2.1 + q2.2.1 + q3.2.1 + q4.2.1).toNat)).2.1, 0) := by
    unfold rtext
    rw [rstep_ok (by rw [← d4]; exact e5), d4]
  rw [r5]
  refine ⟨rfl, fun _ => ?_⟩
  simp only [Prod.mk.injEq, true_and, and_true]
  omega

theorem deff_bound {x : List (List Cell)} (hx : okRd x = true) : 0 ≤ (deff x).2.1 ∧ (deff x).2.1 ≤ x.length ∧ ((deff x).2.2 = 0 → 0 < (deff x).2.1) := by
  have n1 := rnum2_n hx
  have hp : (rnum2 x).2.2 = 0 → 0 < (rnum2 x).2.1 := fun h => (rnum2_bound (okRd_of hx).1 h).1
  unfold deff
  simp only
  generalize rnum2 x = q1 at *
  have n2 := sdec_bound (okRd_drop hx q1.2.1.toNat)
  rw [List.length_drop] at n2
  generalize sdec (x.drop q1.2.1.toNat) = q2 at *
  have n3 := sdec_bound (okRd_drop hx (q1.2.1 + q2.2.1).toNat)
  rw [List.length_drop] at n3
  generalize sdec (x.drop (q1.2.1 + q2.2.1).toNat) = q3 at *
  have n4 := idec_bound (okRd_drop hx (q1.2.1 + q2.2.1 + q3.2.1).toNat)
  rw [List.length_drop] at n4
  generalize idec (x.drop (q1.2.1 + q2.2.1 + q3.2.1).toNat) = q4 at *
  have n5 := sdec_bound (okRd_drop hx (q1.2.1 + q2.2.1 + q3.2.1 + q4.2.1).toNat)
  rw [List.length_drop] at n5
  generalize sdec (x.drop (q1.2.1 + q2.2.1 + q3.2.1 + q4.2.1).toNat) = q5 at *
  split
  · rename_i h; simp only; refine ⟨by omega, by omega, fun h2 => absurd h2 h⟩
  · rename_i h1
    have := hp (by simpa using h1)
    split
    · rename_i h; simp only; exact ⟨by omega, by omega, fun h2 => absurd h2 h⟩
    · split
      · rename_i h; simp only; exact ⟨by omega, by omega, fun h2 => absurd h2 h⟩
      · split
        · rename_i h; simp only; exact ⟨by omega, by omega, fun h2 => absurd h2 h⟩
        · split
          · rename_i h; simp only; exact ⟨by omega, by omega, fun h2 => absurd h2 h⟩
          · simp only; exact ⟨by omega, by omega, fun _ => by omega⟩

/-- the results of the effect's decoder as the code hands them back -/
def rdE (r : (Int × List UInt8 × List UInt8 × Int × List UInt8) × Int × Int) : List AV × List Block :=
  ([.agg [.int .i64 r.1.1, .str r.1.2.1, .str r.1.2.2.1, .int .i64 r.1.2.2.2.1, .str r.1.2.2.2.2], .one (.int .i64 r.2.1), .one (.int .i64 r.2.2)], [])

theorem k101 (x : List (List Cell)) (hx : okRd x = true) : runF E (callOf L100) 1 101 [.one (.sl false 5 x)] [] = some (rdE (deff x)) := by
  have n1 := rnum2_n hx
  have hl := (okRd_of hx).2
  rw [e101]
  simp only [dropN_eq]
  unfold deff
  simp only
  generalize rnum2 x = q1 at *
  have o2 := okRd_drop hx q1.2.1.toNat
  have n2 := sdec_bound o2
  rw [List.length_drop] at n2
  generalize sdec (x.drop q1.2.1.toNat) = q2 at *
  rw [wrap64 (n := q1.2.1 + q2.2.1) (by omega) (by omega)]
  have o3 := okRd_drop hx (q1.2.1 + q2.2.1).toNat
  have n3 := sdec_bound o3
  rw [List.length_drop] at n3
  generalize sdec (x.drop (q1.2.1 + q2.2.1).toNat) = q3 at *
  rw [wrap64 (n := q1.2.1 + q2.2.1 + q3.2.1) (by omega) (by omega)]
  have o4 := okRd_drop hx (q1.2.1 + q2.2.1 + q3.2.1).toNat
  have n4 := idec_bound o4
  rw [List.length_drop] at n4
  generalize idec (x.drop (q1.2.1 + q2.2.1 + q3.2.1).toNat) = q4 at *
  rw [wrap64 (n := q1.2.1 + q2.2.1 + q3.2.1 + q4.2.1) (by omega) (by omega)]
  have o5 := okRd_drop hx (q1.2.1 + q2.2.1 + q3.2.1 + q4.2.1).toNat
  have n5 := sdec_bound o5
  rw [List.length_drop] at n5
  generalize sdec (x.drop (q1.2.1 + q2.2.1 + q3.2.1 + q4.2.1).toNat) = q5 at *
  rw [wrap64 (n := q1.2.1 + q2.2.1 + q3.2.1 + q4.2.1 + q5.2.1) (by omega) (by omega)]
  refine ct hx ?_
  by_cases z1 : q1.2.2 = 0
  rotate_left
  · rw [if_pos z1]; exact ct (by simpa using z1) rfl
  rw [if_neg (by simpa using z1)]
  refine cf (by simpa using z1) (ct (inB_of (by omega) (by omega)) (ct o2 ?_))
  by_cases z2 : q2.2.2 = 0
  rotate_left
  · rw [if_pos z2]; exact ct (by simpa using z2) rfl
  rw [if_neg (by simpa using z2)]
  refine cf (by simpa using z2) (ct (inB_of (by omega) (by omega)) (ct o3 ?_))
  by_cases z3 : q3.2.2 = 0
  rotate_left
  · rw [if_pos z3]; exact ct (by simpa using z3) rfl
  rw [if_neg (by simpa using z3)]
  refine cf (by simpa using z3) (ct (inB_of (by omega) (by omega)) (ct o4 ?_))
  by_cases z4 : q4.2.2 = 0
  rotate_left
  · rw [if_pos z4]; exact ct (by simpa using z4) rfl
  rw [if_neg (by simpa using z4)]
  refine cf (by simpa using z4) (ct (inB_of (by omega) (by omega)) (ct o5 ?_))
  by_cases z5 : q5.2.2 = 0
  rotate_left
  · rw [if_pos z5]; exact ct (by simpa using z5) rfl
  rw [if_neg (by simpa using z5)]
  exact cf (by simpa using z5) rfl

theorem decEs_bound (x : List (List Cell)) (hx : okRd x = true) : ∀ (k : Nat) (a : Int) (acc : List (List Cell)), 0 ≤ a → a ≤ x.length → (decEs x k a acc).2.2 = 0 →
    a ≤ (decEs x k a acc).2.1 ∧ (decEs x k a acc).2.1 ≤ x.length ∧ (decEs x k a acc).1.length = acc.length + k
  | 0, a, acc, ha, hl, _ => ⟨Int.le_refl _, hl, rfl⟩
  | k + 1, a, acc, ha, hl, h => by
    simp only [decEs] at h ⊢
    have hb := deff_bound (okRd_drop hx a.toNat)
    rw [List.length_drop] at hb
    by_cases he : (deff (x.drop a.toNat)).2.2 = 0
    · rw [if_neg (by simpa using he)] at h ⊢
      have := decEs_bound x hx k _ (acc ++ [mkEff (deff (x.drop a.toNat)).1]) (by omega) (by omega) h
      simp only [List.length_append, List.length_cons, List.length_nil] at this
      exact ⟨by omega, this.2.1, by omega⟩
    · rw [if_pos he] at h
      exact absurd h he

/-- what a decoder hands back -/
def dp (r : Int × Int × Int × List (List Cell) × Int × Int) : List AV × List Block :=
  ([.agg [.int .i64 r.1, .int .i64 r.2.1, .int .i64 r.2.2.1, .sl true 61 r.2.2.2.1], .one (.int .i64 r.2.2.2.2.1), .one (.int .i64 r.2.2.2.2.2)], [])

theorem end61 (m : Nat) (t7 t8 : Int) (x : List (List Cell)) (o e c q t : Int) (l : List (List Cell)) (he : e ≠ 0) :
    goF E (callOf L81) F61 0 (m + 1) P61_0 (M61_0 t7 t8 0 0 0 [] x o e c q t l) = some (dp (0, 0, 0, [], 0, e)) := by
  rw [e61_0]
  have h1 : (e == 0) = false := by simpa using he
  have h2 : (e != 0) = true := by simpa using he
  rw [h1, h2]
  cases (decide (t8 < t7)) <;> rfl

theorem fin61 (m : Nat) (t7 t8 : Int) (x : List (List Cell)) (o c q t : Int) (l : List (List Cell)) (h : ¬ t8 < t7) :
    goF E (callOf L81) F61 0 (m + 1) P61_0 (M61_0 t7 t8 0 0 0 [] x o 0 c q t l) = some (dp (finU c q t (l, o, 0))) := by
  rw [e61_0]
  refine cf (decide_eq_false h) (ct rfl ?_)
  unfold finU
  rw [if_neg (by simp)]
  by_cases hv : vUpd c q t l = 0
  · rw [if_neg (by simpa using hv)]
    exact cf (by simpa using hv) rfl
  · rw [if_pos hv]
    exact ct (by simpa using hv) rfl

theorem l61 (x : List (List Cell)) (hx : okRd x = true) (k c q t : Int) (hk : k ≤ 4) : ∀ (d i : Nat) (o : Int) (acc : List (List Cell)), i + d = k.toNat → 0 ≤ o → o ≤ x.length → acc.length = i →
    ∃ m, goF E (callOf L81) F61 0 m P61_0 (M61_0 k i 0 0 0 [] x o 0 c q t acc) = some (dp (finU c q t (decEs x d o acc))) := by
  intro d
  induction d with
  | zero =>
    intro i o acc hi h0 h1 ha
    exact ⟨1, by rw [fin61 0 _ _ _ _ _ _ _ _ (by omega)]; rfl⟩
  | succ d ih =>
    intro i o acc hi h0 h1 ha
    have hat := okAt_mk hx h0 h1
    obtain ⟨c1, c2⟩ := reff_deff hat
    have hb := deff_bound (okRd_drop hx o.toNat)
    rw [List.length_drop] at hb
    by_cases he : (deff (x.drop o.toNat)).2.2 = 0
    · have c3 := c2 he
      obtain ⟨m, hm⟩ := ih (i + 1) (o + (deff (x.drop o.toNat)).2.1) (acc ++ [mkEff (deff (x.drop o.toNat)).1]) (by omega) (by omega) (by omega) (by simp; omega)
      refine ⟨m + 1, ?_⟩
      rw [e61_0]
      refine ct (decide_eq_true (by omega)) (ct rfl (ct hat (ct (fits_of (by simp; omega)) ?_)))
      rw [nat_wrap (n := 4) (by omega) (by omega), c3]
      simp only [decEs, if_neg (show ¬ (deff (x.drop o.toNat)).2.2 ≠ 0 by simpa using he)]
      exact hm
    · refine ⟨2, ?_⟩
      rw [e61_0]
      refine ct (decide_eq_true (by omega)) (ct rfl (ct hat (ct (fits_of (by simp; omega)) ?_)))
      rw [end61 0 _ _ _ _ _ _ _ _ _ (by rw [← c1]; exact he), ← c1]
      simp only [decEs, if_pos he, finU]

theorem k61 (x : List (List Cell)) (hx : okRd x = true) : ∃ m, runF E (callOf L81) m 61 [.one (.sl false 5 x)] [] = some (dp (decU x)) := by
  have hc := chain_read hx (o := 0) (by omega) (by omega) 4
  have a1 := okAt_mk hx (o := 0) (by omega) (by omega)
  have a2 := rnum_at (e := 0) a1
  have a3 := rnum_at (e := (rnum x 0 0).2.2) a2
  simp only [show (4 : Int).toNat = 4 from rfl, show (0 : Int).toNat = 0 from rfl, List.drop_zero, chain] at hc
  unfold decU
  generalize hp1 : rnum x 0 0 = p1 at *
  generalize hp2 : rnum x p1.2.1 p1.2.2 = p2 at *
  have a4 := rnum_at (e := p2.2.2) a3
  generalize hp3 : rnum x p2.2.1 p2.2.2 = p3 at *
  generalize hp4 : rnum x p3.2.1 p3.2.2 = p4 at *
  obtain ⟨c1, c2⟩ := hc
  by_cases he : (rread x 4).2.2 = 0
  · obtain ⟨c3, c4⟩ := c2 he
    have hb := rread_bound hx he
    have q0 : nr (Abs.rowAt (rread x 4).1 0) 0 = p1.1 := by rw [c4]; rfl
    have q1 : nr (Abs.rowAt (rread x 4).1 1) 0 = p2.1 := by rw [c4]; rfl
    have q2 : nr (Abs.rowAt (rread x 4).1 2) 0 = p3.1 := by rw [c4]; rfl
    have q3 : nr (Abs.rowAt (rread x 4).1 3) 0 = p4.1 := by rw [c4]; rfl
    rw [if_neg (by simpa using he), q0, q1, q2, q3]
    have hz : p4.2.2 = 0 := by rw [← c1]; exact he
    by_cases h6 : 4 < p4.1
    · refine ⟨2, ?_⟩
      rw [e61, hp1, hp2, hp3, hp4, if_pos h6]
      refine ct a1 (ct a2 (ct a3 (ct a4 (ct (by simpa using hz) (ct (decide_eq_true h6) ?_)))))
      exact end61 0 _ _ _ _ _ _ _ _ _ (by decide)
    · obtain ⟨m, hm⟩ := l61 x hx p4.1 p1.1 p2.1 p3.1 (by omega) p4.1.toNat 0 (rread x 4).2.1 [] (by omega) hb.1 hb.2.1 rfl
      refine ⟨m + 1, ?_⟩
      rw [e61, hp1, hp2, hp3, hp4, if_neg h6]
      refine ct a1 (ct a2 (ct a3 (ct a4 (ct (by simpa using hz) (cf (decide_eq_false h6) ?_)))))
      rw [c3, hz, Int.zero_add]
      exact hm
  · refine ⟨2, ?_⟩
    rw [e61, hp1, hp2, hp3, hp4, if_pos he, c1]
    have hz : p4.2.2 ≠ 0 := by rw [← c1]; exact he
    refine ct a1 (ct a2 (ct a3 (ct a4 (cf (by simpa using hz) ?_))))
    exact end61 0 _ _ _ _ _ _ _ _ _ hz

theorem l86 (x : List (List Cell)) (hx : okRd x = true) (h : List (List Cell)) (k c q t : Int) (ht : h.length = 4) (htk : nr (Abs.rowAt h 3) 0 = k) (hk : k ≤ 4) : ∀ (d i : Nat) (o : Int) (acc : List (List Cell)), i + d = k.toNat → 0 ≤ o → o ≤ x.length → acc.length = i →
    ∃ m, goF E (callOf L101) F86 0 m P86_0 (M86_0 x h o i 0 0 0 [] c q t acc) = some (dp (finU c q t (decEs x d o acc))) := by
  intro d
  induction d with
  | zero =>
    intro i o acc hi h0 h1 ha
    refine ⟨1, ?_⟩
    rw [e86_0, htk]
    refine ct (inB_of (by omega) (by omega)) (cf (decide_eq_false (by omega)) ?_)
    unfold finU decEs
    rw [if_neg (by simp)]
    by_cases hv : vUpd c q t acc = 0
    · rw [if_neg (by simpa using hv)]
      exact cf (by simpa using hv) rfl
    · rw [if_pos hv]
      exact ct (by simpa using hv) rfl
  | succ d ih =>
    intro i o acc hi h0 h1 ha
    have h4 := okRd_drop hx o.toNat
    have hb := deff_bound h4
    rw [List.length_drop] at hb
    have hl := (okRd_of hx).2
    by_cases he : (deff (x.drop o.toNat)).2.2 = 0
    · obtain ⟨m, hm⟩ := ih (i + 1) (o + (deff (x.drop o.toNat)).2.1) (acc ++ [mkEff (deff (x.drop o.toNat)).1]) (by omega) (by omega) (by omega) (by simp; omega)
      refine ⟨m + 1, ?_⟩
      rw [e86_0, htk, dropN_eq]
      refine ct (inB_of (by omega) (by omega)) (ct (decide_eq_true (by omega)) (ct (inB_of h0 (by omega)) (ct h4 (cf (by simpa using he) (ct (fits_of (by simp; omega)) ?_)))))
      rw [nat_wrap (n := 4) (by omega) (by omega), wrap64 (by omega) (by omega)]
      simp only [decEs, if_neg (show ¬ (deff (x.drop o.toNat)).2.2 ≠ 0 by simpa using he)]
      exact hm
    · refine ⟨1, ?_⟩
      rw [e86_0, htk, dropN_eq]
      refine ct (inB_of (by omega) (by omega)) (ct (decide_eq_true (by omega)) (ct (inB_of h0 (by omega)) (ct h4 (ct (by simpa using he) ?_))))
      simp only [decEs, if_pos he, finU]
      rfl

theorem k86 (x : List (List Cell)) (hx : okRd x = true) : ∃ m, runF E (callOf L101) m 86 [.one (.sl false 5 x)] [] = some (dp (decU x)) := by
  unfold decU
  by_cases he : (rread x 4).2.2 = 0
  · have hb := rread_bound hx he
    have h3 : (rread x 4).1.length = 4 := hb.2.2.1
    rw [if_neg (by simpa using he)]
    by_cases h6 : 4 < nr (Abs.rowAt (rread x 4).1 3) 0
    · refine ⟨1, ?_⟩
      rw [e86, if_pos h6]
      exact ct (by simp [hx]) (cf (by simpa using he) (ct (inB_of (by omega) (by omega)) (ct (decide_eq_true h6) rfl)))
    · obtain ⟨m, hm⟩ := l86 x hx (rread x 4).1 _ (nr (Abs.rowAt (rread x 4).1 0) 0) (nr (Abs.rowAt (rread x 4).1 1) 0) (nr (Abs.rowAt (rread x 4).1 2) 0) h3 rfl (by omega) _ 0 (rread x 4).2.1 [] (Nat.zero_add _) hb.1 hb.2.1 rfl
      refine ⟨m + 1, ?_⟩
      rw [e86, if_neg h6]
      exact ct (by simp [hx]) (cf (by simpa using he) (ct (inB_of (by omega) (by omega)) (cf (decide_eq_false h6) (ct (inB_of (by omega) (by omega)) (ct (inB_of (by omega) (by omega)) (ct (inB_of (by omega) (by omega)) hm))))))
  · refine ⟨1, ?_⟩
    rw [e86, if_pos he]
    exact ct (by simp [hx]) (ct (by simpa using he) rfl)

def reEff (r : List Cell) : List Cell := [.int .i64 (nr r 0), .str (ns r 1), .str (ns r 2), .int .i64 (nr r 3), .str (ns r 4)]

theorem vEffR_re (r : List Cell) : vEffR (reEff r) = vEffR r := rfl

theorem vEffs_re : ∀ (l : List (List Cell)), vEffs (l.map reEff) = vEffs l
  | [] => rfl
  | r :: l => by rw [List.map_cons, vEffs, vEffs, vEffR_re, vEffs_re l]

theorem comm_re (l : List (List Cell)) : comm (l.map reEff) = comm l := by
  unfold comm
  rw [List.all_map]
  rfl

theorem vUpd_re (c q t : Int) (l : List (List Cell)) : vUpd c q t (l.map reEff) = vUpd c q t l := by
  unfold vUpd
  rw [List.length_map, vEffs_re, comm_re]

theorem eqEffF_re : ∀ (l : List (List Cell)), eqEffF l (l.map reEff) = true
  | [] => rfl
  | r :: l => by
    rw [List.map_cons, eqEffF]
    show (eqEffR r (reEff r) && eqEffF l (l.map reEff)) = true
    rw [eqEffF_re l, Bool.and_true]
    simp [eqEffR, reEff, nr, ns, cellAt, Cell.toInt, Cell.toStr]

theorem eqEffF_re2 : ∀ (l : List (List Cell)), eqEffF (l.map reEff) l = true
  | [] => rfl
  | r :: l => by
    rw [List.map_cons, eqEffF]
    show (eqEffR (reEff r) r && eqEffF (l.map reEff) l) = true
    rw [eqEffF_re2 l, Bool.and_true]
    simp [eqEffR, reEff, nr, ns, cellAt, Cell.toInt, Cell.toStr]

theorem eqU_re (a n t : Int) (c : List (List Cell)) : eqU a n t c a n t (c.map reEff) = true := by
  simp [eqU, eqEffs, eqEffF_re]

theorem eqU_re2 (a n t : Int) (c : List (List Cell)) : eqU a n t (c.map reEff) a n t c = true := by
  simp [eqU, eqEffs, eqEffF_re2]

/-- an effect that survives -/
def goodE (r : List Cell) : Prop := vEffR r = 0 ∧ okI (nr r 3) = true

theorem goodE_facts {r : List Cell} (h : goodE r) : 1 ≤ nr r 0 ∧ nr r 0 ≤ 5 ∧ (ns r 1).length ≤ 16 ∧ (ns r 2).length ≤ 16 ∧ (ns r 4).length ≤ 32 := by
  have := vEff_cases (nr r 0) (ns r 1) (ns r 2) (nr r 3) (ns r 4)
  have h1 : vEff (nr r 0) (ns r 1) (ns r 2) (nr r 3) (ns r 4) = 0 := h.1
  omega

theorem goodE_short {r : List Cell} (h : goodE r) : shortR r = true := by
  have := goodE_facts h
  unfold shortR
  simp only [Bool.and_eq_true, decide_eq_true_eq]
  exact ⟨by omega, by omega, by omega, h.2⟩

theorem vEffs_mem : ∀ {l : List (List Cell)}, vEffs l = 0 → ∀ r ∈ l, vEffR r = 0
  | [], _, r, hr => by cases hr
  | q :: l, h, r, hr => by
    rw [vEffs] at h
    by_cases h0 : vEffR q = 0
    · rw [if_neg (by simpa using h0)] at h
      rcases List.mem_cons.1 hr with rfl | hr
      · exact h0
      · exact vEffs_mem h r hr
    · rw [if_pos h0] at h
      exact absurd h h0

theorem vUpd_ok {c q t : Int} {l : List (List Cell)} (h : vUpd c q t l = 0) : 101 ≤ c ∧ c < 107 ∧ 1 ≤ q ∧ q ≤ 8 ∧ 0 ≤ t ∧ t ≤ 1000 ∧ 1 ≤ l.length ∧ l.length ≤ 4 ∧ vEffs l = 0 := by
  unfold vUpd at h
  split at h
  · simp at h
  · split at h
    · simp at h
    · split at h
      · simp at h
      · split at h
        · rename_i h1; exact absurd h h1
        · omega

theorem drop_at (A B : List (List Cell)) (n : Int) (h : n = A.length) : (A ++ B).drop n.toNat = B := by
  subst h
  rw [Int.toNat_natCast, List.drop_left]

/-- an effect is read back, whatever follows -/
theorem deff_enc {r : List Cell} (h : goodE r) (rest : List (List Cell)) : deff (effEnc r ++ rest) = ((nr r 0, ns r 1, ns r 2, nr r 3, ns r 4), ((effEnc r).length : Int), 0) := by
  obtain ⟨h0, h1, h2, h3, h4⟩ := goodE_facts h
  have hx : effEnc r ++ rest = uenc (IntKind.wrap .u64 (nr r 0)) ++ (senc (ns r 1) ++ (senc (ns r 2) ++ (uenc (zig (nr r 3)) ++ (senc (ns r 4) ++ rest)))) := by
    unfold effEnc
    simp only [List.append_assoc]
  have hlen : (effEnc r).length = (uenc (IntKind.wrap .u64 (nr r 0))).length + (senc (ns r 1)).length + (senc (ns r 2)).length + (uenc (zig (nr r 3))).length + (senc (ns r 4)).length := by
    unfold effEnc
    simp only [List.length_append]
    omega
  rw [hx, hlen]
  have p1 := rnum2_enc (v := nr r 0) (by omega) (by omega) (senc (ns r 1) ++ (senc (ns r 2) ++ (uenc (zig (nr r 3)) ++ (senc (ns r 4) ++ rest))))
  have p2 := sdec_senc (s := ns r 1) (by omega) (senc (ns r 2) ++ (uenc (zig (nr r 3)) ++ (senc (ns r 4) ++ rest)))
  have p3 := sdec_senc (s := ns r 2) (by omega) (uenc (zig (nr r 3)) ++ (senc (ns r 4) ++ rest))
  have p4 := idec_enc (v := nr r 3) h.2 (senc (ns r 4) ++ rest)
  have p5 := sdec_senc (s := ns r 4) (by omega) rest
  generalize uenc (IntKind.wrap .u64 (nr r 0)) = A at *
  generalize senc (ns r 1) = B at *
  generalize senc (ns r 2) = C at *
  generalize uenc (zig (nr r 3)) = D at *
  generalize senc (ns r 4) = F at *
  unfold deff
  simp only
  rw [p1]
  simp only
  rw [drop_at A _ _ rfl, p2]
  simp only
  rw [show A ++ (B ++ (C ++ (D ++ (F ++ rest)))) = (A ++ B) ++ (C ++ (D ++ (F ++ rest))) by simp only [List.append_assoc], drop_at (A ++ B) _ _ (by simp only [List.length_append]; omega), p3]
  simp only
  rw [show (A ++ B) ++ (C ++ (D ++ (F ++ rest))) = (A ++ B ++ C) ++ (D ++ (F ++ rest)) by simp only [List.append_assoc], drop_at (A ++ B ++ C) _ _ (by simp only [List.length_append]; omega), p4]
  simp only
  rw [show (A ++ B ++ C) ++ (D ++ (F ++ rest)) = (A ++ B ++ C ++ D) ++ (F ++ rest) by simp only [List.append_assoc], drop_at (A ++ B ++ C ++ D) _ _ (by simp only [List.length_append]; omega), p5]
  simp only
  rw [if_neg (by simp), if_neg (by simp), if_neg (by simp), if_neg (by simp), if_neg (by simp)]
  simp

theorem decEs_enc (rest : List (List Cell)) : ∀ (l pre acc : List (List Cell)), (∀ r ∈ l, goodE r) →
    decEs (pre ++ (effsEnc l ++ rest)) l.length pre.length acc = (acc ++ l.map reEff, ((pre.length + (effsEnc l).length : Nat) : Int), 0)
  | [], pre, acc, _ => by simp [decEs, effsEnc]
  | r :: l, pre, acc, h => by
    have ih := decEs_enc rest l (pre ++ effEnc r) (acc ++ [reEff r]) (fun q hq => h q (List.mem_cons_of_mem _ hq))
    have e : (pre ++ (effsEnc (r :: l) ++ rest)).drop ((pre.length : Nat) : Int).toNat = effEnc r ++ (effsEnc l ++ rest) := by
      rw [Int.toNat_natCast, List.drop_left, effsEnc, List.append_assoc]
    rw [List.length_cons, decEs, e, deff_enc (h r List.mem_cons_self), if_neg (by simp)]
    simp only
    have e2 : pre ++ (effsEnc (r :: l) ++ rest) = (pre ++ effEnc r) ++ (effsEnc l ++ rest) := by
      rw [effsEnc]; simp only [List.append_assoc]
    rw [e2, ← Int.natCast_add, ← List.length_append]
    refine ih.trans ?_
    simp only [List.map_cons, List.append_assoc, List.length_append, effsEnc, List.cons_append, List.nil_append]
    congr 3
    omega

theorem headU_small {c q t : Int} {l : List (List Cell)} (h : vUpd c q t l = 0) : small (headU c q t l.length) := by
  obtain ⟨h1, h2, h3, h4, h5, h6, h7, h8, h9⟩ := vUpd_ok h
  intro r hr
  simp only [headU, List.mem_cons, List.not_mem_nil, or_false] at hr
  rcases hr with rfl | rfl | rfl | rfl <;> simp only [nr, cellAt, Cell.toInt] <;> omega

theorem good_all {c q t : Int} {l : List (List Cell)} (h : vUpd c q t l = 0) (hn : l.all (fun e => okI (nr e 3)) = true) : ∀ r ∈ l, goodE r :=
  fun r hr => ⟨vEffs_mem (vUpd_ok h).2.2.2.2.2.2.2.2 r hr, List.all_eq_true.1 hn r hr⟩

/-- a valid update is read back, whatever follows -/
theorem decU_enc {c q t : Int} {l : List (List Cell)} (h : vUpd c q t l = 0) (hn : l.all (fun e => okI (nr e 3)) = true) (rest : List (List Cell)) :
    decU (encU c q t l ++ rest) = (c, q, t, l.map reEff, ((encU c q t l).length : Int), 0) := by
  obtain ⟨h1, h2, h3, h4, h5, h6, h7, h8, h9⟩ := vUpd_ok h
  have hs := headU_small h
  have hg := good_all h hn
  have e : encU c q t l ++ rest = [] ++ (encL (headU c q t l.length) ++ (effsEnc l ++ rest)) := by
    rw [encU, List.append_assoc, List.nil_append]
  have e3 : rread (encU c q t l ++ rest) 4 = ((headU c q t l.length).map reNum, ((encL (headU c q t l.length)).length : Int), 0) := by
    have := rread_enc (effsEnc l ++ rest) (headU c q t l.length) [] [] hs
    rw [← e] at this
    simpa [rread, headU] using this
  have e4 : decEs (encU c q t l ++ rest) l.length ((encL (headU c q t l.length)).length : Int) [] = (l.map reEff, ((encU c q t l).length : Int), 0) := by
    have := decEs_enc rest l (encL (headU c q t l.length)) [] hg
    have e5 : encL (headU c q t l.length) ++ (effsEnc l ++ rest) = encU c q t l ++ rest := by
      rw [encU, List.append_assoc]
    rw [e5] at this
    rw [this, encU, List.length_append, List.nil_append]
  unfold decU
  rw [e3, if_neg (by simp)]
  have k0 : nr (Abs.rowAt ((headU c q t l.length).map reNum) 0) 0 = c := rfl
  have k1 : nr (Abs.rowAt ((headU c q t l.length).map reNum) 1) 0 = q := rfl
  have k2 : nr (Abs.rowAt ((headU c q t l.length).map reNum) 2) 0 = t := rfl
  have k3 : nr (Abs.rowAt ((headU c q t l.length).map reNum) 3) 0 = (l.length : Int) := rfl
  simp only [k0, k1, k2, k3, Int.toNat_natCast]
  rw [if_neg (by omega), e4]
  unfold finU
  simp only
  rw [if_neg (by simp), vUpd_re, h, if_neg (by simp)]

theorem effsEnc_len : ∀ (l : List (List Cell)), l.all shortR = true → (effsEnc l).length ≤ 400 * l.length
  | [], _ => by simp [effsEnc]
  | r :: l, h => by
    rw [List.all_cons, Bool.and_eq_true] at h
    have := (effEnc_ok h.1 (y := []) (by simp)).2.2.2.2
    have := effsEnc_len l h.2
    simp only [effsEnc, List.length_append, List.length_cons]
    omega

theorem effEnc_okB (r : List Cell) : okB (effEnc r) = true ∨ ¬ okI (nr r 3) = true := by
  by_cases h : okI (nr r 3) = true
  · left
    unfold effEnc
    exact okB_app (uencF_okB 10 _ (wrapu_range _).1) (okB_app (senc_okB _) (okB_app (senc_okB _) (okB_app (uencF_okB 10 _ (zig_range h).1) (senc_okB _))))
  · exact Or.inr h

theorem effsEnc_okB : ∀ (l : List (List Cell)), l.all (fun e => okI (nr e 3)) = true → okB (effsEnc l) = true
  | [], _ => rfl
  | r :: l, h => by
    rw [List.all_cons, Bool.and_eq_true] at h
    exact okB_app ((effEnc_okB r).resolve_right (fun hn => hn h.1)) (effsEnc_okB l h.2)

theorem encU_okB (c q t : Int) {l : List (List Cell)} (h : l.all (fun e => okI (nr e 3)) = true) : okB (encU c q t l) = true := okB_app (encL_okB _) (effsEnc_okB l h)

theorem encU_len (c q t : Int) {l : List (List Cell)} (h : l.all shortR = true) : (encU c q t l).length ≤ 40 + 400 * l.length := by
  have := encL_len (headU c q t l.length)
  have h4 : (headU c q t l.length).length = 4 := rfl
  have := effsEnc_len l h
  unfold encU
  rw [List.length_append]
  omega

theorem good_short {c q t : Int} {l : List (List Cell)} (h : vUpd c q t l = 0) (hn : l.all (fun e => okI (nr e 3)) = true) : l.all shortR = true :=
  List.all_eq_true.2 fun r hr => goodE_short (good_all h hn r hr)

theorem decU_len (x : List (List Cell)) (hx : okRd x = true) : (decU x).2.2.2.1.length ≤ 4 := by
  unfold decU
  split
  · simp
  · rename_i h0
    split
    · simp
    · rename_i h6
      unfold finU
      split
      · simp
      · rename_i h1
        split
        · simp
        · have hb := rread_bound hx (c := 4) (by simpa using h0)
          have := (decEs_bound x hx _ _ [] hb.1 hb.2.1 (by simpa using h1)).2.2
          simp only [this, List.length_nil]
          omega

theorem k93 (n : Int) : runF E (callOf L54) 1 93 [.one (.int .i64 n)] [] = some ([.one (.str (gName n))], []) := by
  rw [e93]
  have e : gIndex n 4 = n % 4 := by unfold gIndex; rw [if_neg (by omega)]
  rw [e]
  unfold gName
  have h0 := Int.emod_nonneg n (show (4 : Int) ≠ 0 by omega)
  have h1 := Int.emod_lt_of_pos n (show (0 : Int) < 4 by omega)
  generalize n % 4 = d at *
  have hd : d = 0 ∨ d = 1 ∨ d = 2 ∨ d = 3 := by omega
  rcases hd with rfl | rfl | rfl | rfl <;> rfl

theorem k76 (n : Int) (w : Bool) : runF E (callOf L93) 1 76 [.one (.int .i64 n), .one (.bool w)] [] = some ([.agg [.int .i64 (gEff n w).1, .str (gEff n w).2.1, .str (gEff n w).2.2.1, .int .i64 (gEff n w).2.2.2.1, .str (gEff n w).2.2.2.2]], []) := by
  rw [e76]
  have h := gDigit_range n 4 0 (by omega)
  have h1 := gDigit_range n 16 3 (by omega)
  rw [wrap64 (n := gDigit n 16 3 - 5) (by omega) (by omega)]
  unfold gEff
  generalize gDigit n 4 0 = d at *
  have hd : d = 0 ∨ d = 1 ∨ d = 2 ∨ d = 3 := by omega
  cases w <;> rcases hd with rfl | rfl | rfl | rfl <;> rfl

theorem l55 (n c q : Int) : ∀ (d i : Nat) (acc : List (List Cell)), i + d = (gDigit n 3 9).toNat + 1 → acc.length = i →
    ∃ m, goF E (callOf L76) F55 0 m P55_0 (M55_0 n i 0 0 0 [] c q 0 acc) = some ([.agg [.int .i64 c, .int .i64 q, .int .i64 0, .sl true 61 (gEffsF n d i acc)]], [])
  | 0, i, acc, hi, ha => by
    have h := gDigit_range n 3 9 (by omega)
    refine ⟨1, ?_⟩
    rw [e55_0]
    exact ct rfl (cf (decide_eq_false (by omega)) rfl)
  | d + 1, i, acc, hi, ha => by
    have h := gDigit_range n 3 9 (by omega)
    obtain ⟨m, hm⟩ := l55 n c q d (i + 1) (acc ++ [mkEff (gEff (n % 1099511627776 / (i + 1)) false)]) (by omega) (by simp; omega)
    refine ⟨m + 1, ?_⟩
    have e : gIndex n 1099511627776 = n % 1099511627776 := by unfold gIndex; rw [if_neg (by omega)]
    have h0 := Int.emod_nonneg n (show (1099511627776 : Int) ≠ 0 by omega)
    have h1 := Int.emod_lt_of_pos n (show (0 : Int) < 1099511627776 by omega)
    have h2 : n % 1099511627776 / (i + 1) ≤ n % 1099511627776 := Int.ediv_le_self _ h0
    have h3 : 0 ≤ n % 1099511627776 / (i + 1) := Int.ediv_nonneg h0 (by omega)
    rw [e55_0, e, wrap64 (n := (i : Int) + 1) (by omega) (by omega), Int.tdiv_eq_ediv_of_nonneg h0, wrap64 (n := n % 1099511627776 / (i + 1)) (by omega) (by omega)]
    refine ct rfl (ct (decide_eq_true (by omega)) (ct rfl (cf (decide_eq_false (by omega)) (ct (fits_of (by simp; omega)) ?_))))
    exact hm

theorem k55 (c q n : Int) : ∃ m, runF E (callOf L76) m 55 [.one (.int .i64 c), .one (.int .i64 q), .one (.int .i64 n)] [] = some ([.agg [.int .i64 c, .int .i64 q, .int .i64 (gTag n), .sl true 61 (gEffs n)]], []) := by
  have h := gDigit_range n 3 9 (by omega)
  unfold gTag gEffs
  by_cases h0 : gDigit n 3 8 = 0
  · refine ⟨1, ?_⟩
    rw [e55, if_pos h0, if_pos h0]
    exact ct rfl (ct (by simpa using h0) (ct rfl rfl))
  · obtain ⟨m, hm⟩ := l55 n c q ((gDigit n 3 9).toNat + 1) 0 [] (by omega) rfl
    refine ⟨m + 1, ?_⟩
    rw [e55, if_neg h0, if_neg h0]
    exact ct rfl (cf (by simpa using h0) hm)

theorem in25 (l : List (List Cell)) (hl : l.length < 4611686018427387904) (c : Nat) (hc : c < 3) (R : List AV × List Block) : ∀ (d i : Nat) (q : Int) (acc : List (List Cell)), i + d = min l.length 24 → 0 ≤ q → q ≤ i → acc.length ≤ 24 * c + i →
    (∃ m, goF E (callOf L55) F25 0 m P25_0 (M25_0 l (gUpdsF l c d i q acc) ((c + 1 : Nat) : Int)) = some R) →
    ∃ m, goF E (callOf L55) F25 0 m P25_1 (M25_1 l acc c q i) = some R
  | 0, i, q, acc, hi, h0, h1, h2, hr => by
    obtain ⟨m, hm⟩ := hr
    refine ⟨m + 1, ?_⟩
    rw [e25_1, wrap64 (n := (c : Int) + 1) (by omega) (by omega)]
    by_cases h : i < l.length
    · exact ct (decide_eq_true (by omega)) (cf (decide_eq_false (by omega)) hm)
    · exact cf (decide_eq_false (by omega)) hm
  | d + 1, i, q, acc, hi, h0, h1, h2, hr => by
    have e : gIndex (nr (Abs.rowAt l i) 0) 1099511627776 = nr (Abs.rowAt l i) 0 % 1099511627776 := by unfold gIndex; rw [if_neg (by omega)]
    have g0 := Int.emod_nonneg (nr (Abs.rowAt l i) 0) (show (1099511627776 : Int) ≠ 0 by omega)
    have g1 := Int.emod_lt_of_pos (nr (Abs.rowAt l i) 0) (show (0 : Int) < 1099511627776 by omega)
    unfold gUpdsF at hr
    by_cases hg : gDigit (nr (Abs.rowAt l i) 0) 3 0 = c ∧ q < 8
    · rw [if_pos hg] at hr
      obtain ⟨m, hm⟩ := in25 l hl c hc R d (i + 1) (q + 1) (acc ++ [gUpd (101 + c) (q + 1) (nr (Abs.rowAt l i) 0 % 1099511627776 / 3)]) (by omega) (by omega) (by omega) (by simp; omega) hr
      refine ⟨m + 1, ?_⟩
      rw [e25_1, Int.toNat_natCast, e, Int.tdiv_eq_ediv_of_nonneg g0, wrap64 (n := nr (Abs.rowAt l i) 0 % 1099511627776 / 3) (by omega) (by omega), wrap64 (n := (101 : Int) + c) (by omega) (by omega), wrap64 (n := q + 1) (by omega) (by omega), wrap64 (n := (i : Int) + 1) (by omega) (by omega)]
      exact ct (decide_eq_true (by omega)) (ct (decide_eq_true (by omega)) (ct (inB_nat' (by omega)) (ct rfl (ct (by simpa using hg.1) (ct (decide_eq_true hg.2) (ct (inB_nat' (by omega)) (ct rfl (ct (fits_of (by simp; omega)) hm))))))))
    · rw [if_neg hg] at hr
      obtain ⟨m, hm⟩ := in25 l hl c hc R d (i + 1) q acc (by omega) (by omega) (by omega) (by omega) hr
      refine ⟨m + 1, ?_⟩
      rw [e25_1, Int.toNat_natCast, wrap64 (n := (i : Int) + 1) (by omega) (by omega)]
      refine ct (decide_eq_true (by omega)) (ct (decide_eq_true (by omega)) (ct (inB_nat' (by omega)) (ct rfl ?_)))
      by_cases hd : gDigit (nr (Abs.rowAt l i) 0) 3 0 = c
      · exact ct (by simpa using hd) (cf (decide_eq_false (fun h => hg ⟨hd, h⟩)) hm)
      · exact cf (by simpa using hd) hm

theorem gUpdsF_len (l : List (List Cell)) (c : Nat) : ∀ (d i : Nat) (q : Int) (acc : List (List Cell)), (gUpdsF l c d i q acc).length ≤ acc.length + d
  | 0, _, _, _ => by simp [gUpdsF]
  | d + 1, i, q, acc => by
    unfold gUpdsF
    split
    · have := gUpdsF_len l c d (i + 1) (q + 1) (acc ++ [gUpd (101 + c) (q + 1) (nr (Abs.rowAt l i) 0 % 1099511627776 / 3)])
      simp only [List.length_append, List.length_cons, List.length_nil] at this
      omega
    · have := gUpdsF_len l c d (i + 1) q acc
      omega

theorem k25 (l : List (List Cell)) (hl : l.length < 4611686018427387904) : ∃ m, runF E (callOf L55) m 25 [.one (.sl false 3 l)] [] = some ([.one (.sl true 43 (gUpds l))], []) := by
  have hm := Nat.min_le_right l.length 24
  have b0 := gUpdsF_len l 0 (min l.length 24) 0 0 []
  have b1 := gUpdsF_len l 1 (min l.length 24) 0 0 (gUpdsF l 0 (min l.length 24) 0 0 [])
  have b2 := gUpdsF_len l 2 (min l.length 24) 0 0 (gUpdsF l 1 (min l.length 24) 0 0 (gUpdsF l 0 (min l.length 24) 0 0 []))
  simp only [List.length_nil] at b0
  have r3 : ∃ m, goF E (callOf L55) F25 0 m P25_0 (M25_0 l (gUpds l) ((3 : Nat) : Int)) = some ([.one (.sl true 43 (gUpds l))], []) :=
    ⟨1, by rw [e25_0]; exact cf (by decide) rfl⟩
  have step : ∀ (c : Nat) (acc : List (List Cell)), c < 3 → acc.length ≤ 24 * c → (∃ m, goF E (callOf L55) F25 0 m P25_0 (M25_0 l (gUpdsF l c (min l.length 24) 0 0 acc) ((c + 1 : Nat) : Int)) = some ([.one (.sl true 43 (gUpds l))], [])) →
      ∃ m, goF E (callOf L55) F25 0 m P25_0 (M25_0 l acc c) = some ([.one (.sl true 43 (gUpds l))], []) := by
    intro c acc hc ha hr
    obtain ⟨m, hm⟩ := in25 l hl c hc _ (min l.length 24) 0 0 acc (by omega) (by omega) (by omega) (by omega) hr
    refine ⟨m + 1, ?_⟩
    rw [e25_0]
    exact ct (decide_eq_true (by omega)) hm
  obtain ⟨m, hm⟩ := step 0 [] (by omega) (by simp) (step 1 _ (by omega) (by omega) (step 2 _ (by omega) (by omega) r3))
  exact ⟨m + 1, by rw [e25]; exact hm⟩

theorem gName_len (n : Int) : 1 ≤ (gName n).length ∧ (gName n).length ≤ 2 := by
  unfold gName
  (repeat' split) <;> simp

theorem vEff_zero {k : Int} {o f : List UInt8} {n : Int} {s : List UInt8} (hk : 1 ≤ k ∧ k ≤ 5) (ho : 1 ≤ o.length ∧ o.length ≤ 16) (hf : 1 ≤ f.length ∧ f.length ≤ 16) (hs : s.length ≤ 32)
    (h3 : ¬ (k = 3 ∧ (n < -1000000 ∨ 1000000 < n))) (h4 : ¬ ((k = 4 ∨ k = 5) ∧ n ≠ 0)) (h5 : ¬ ((k = 2 ∨ k = 3 ∨ k = 5) ∧ s.length ≠ 0)) : vEff k o f n s = 0 := by
  have := vEff_cases k o f n s
  omega

theorem gEff_ok (n : Int) (w : Bool) : vEffR (mkEff (gEff n w)) = 0 ∧ okI (nr (mkEff (gEff n w)) 3) = true ∧ (nr (mkEff (gEff n w)) 0 = 1 ↔ w = true) := by
  have h1 := gDigit_range n 16 3 (by omega)
  have a := gName_len (gDigit n 4 1)
  have b := gName_len (gDigit n 4 2)
  have c := gName_len (gDigit n 4 5)
  have hv : ∀ p, vEffR (mkEff p) = vEff p.1 p.2.1 p.2.2.1 p.2.2.2.1 p.2.2.2.2 := fun _ => rfl
  have h3 : ∀ p, nr (mkEff p) 3 = p.2.2.2.1 := fun _ => rfl
  have h0 : ∀ p, nr (mkEff p) 0 = p.1 := fun _ => rfl
  rw [hv, h3, h0]
  unfold gEff
  cases w
  all_goals simp only [Bool.false_eq_true, if_false, if_true]
  all_goals (repeat' split)
  all_goals (refine ⟨?_, ?_, by simp⟩)
  all_goals try dsimp only
  all_goals first
    | (unfold okI; simp only [Bool.and_eq_true, decide_eq_true_eq]; omega)
    | exact vEff_zero (by omega) (by omega) (by omega) (by first | omega | simp) (by omega) (by omega) (by first | omega | simp)

def okUpd (r : List Cell) : Prop := vUpd (nr r 0) (nr r 1) (nr r 2) (nl r 3) = 0 ∧ (nl r 3).all (fun e => okI (nr e 3)) = true

theorem vEffs_all {l : List (List Cell)} (h : ∀ r ∈ l, vEffR r = 0) : vEffs l = 0 := by
  induction l with
  | nil => rfl
  | cons r l ih =>
    rw [vEffs, if_neg (by simpa using h r List.mem_cons_self)]
    exact ih fun q hq => h q (List.mem_cons_of_mem _ hq)

theorem gEffsF_ok (n : Int) : ∀ (d i : Nat) (acc : List (List Cell)), (∀ r ∈ acc, vEffR r = 0 ∧ okI (nr r 3) = true ∧ nr r 0 ≠ 1) →
    (∀ r ∈ gEffsF n d i acc, vEffR r = 0 ∧ okI (nr r 3) = true ∧ nr r 0 ≠ 1) ∧ (gEffsF n d i acc).length = acc.length + d
  | 0, _, _, h => ⟨h, rfl⟩
  | d + 1, i, acc, h => by
    have hg := gEff_ok (n % 1099511627776 / (i + 1)) false
    have := gEffsF_ok n d (i + 1) (acc ++ [mkEff (gEff (n % 1099511627776 / (i + 1)) false)]) (fun r hr => by
      rcases List.mem_append.1 hr with hr | hr
      · exact h r hr
      · rw [List.mem_singleton.1 hr]
        exact ⟨hg.1, hg.2.1, fun h1 => by simpa using hg.2.2.1 h1⟩)
    refine ⟨this.1, ?_⟩
    have h2 := this.2
    simp only [List.length_append, List.length_cons, List.length_nil] at h2
    show (gEffsF n d (i + 1) (acc ++ [mkEff (gEff (n % 1099511627776 / (i + 1)) false)])).length = _
    omega

theorem gUpd_ok (c q n : Int) (hc : 101 ≤ c) (hc2 : c < 107) (hq : 1 ≤ q) (hq2 : q ≤ 8) : okUpd (gUpd c q n) := by
  have h16 := gDigit_range n 16 4 (by omega)
  have h9 := gDigit_range n 3 9 (by omega)
  have e0 : nr (gUpd c q n) 0 = c := rfl
  have e1 : nr (gUpd c q n) 1 = q := rfl
  have e2 : nr (gUpd c q n) 2 = gTag n := rfl
  have e3 : nl (gUpd c q n) 3 = gEffs n := rfl
  unfold okUpd
  rw [e0, e1, e2, e3]
  unfold gTag gEffs
  by_cases h : gDigit n 3 8 = 0
  · rw [if_pos h, if_pos h]
    have hg := gEff_ok n true
    have hw := hg.2.2.2 rfl
    refine ⟨?_, by simp [hg.2.1]⟩
    unfold vUpd
    rw [if_neg (by omega), if_neg (by simp), if_neg (by simp), vEffs_all (by simpa using hg.1), if_neg (by simp), if_neg]
    simp [comm, hw]
  · rw [if_neg h, if_neg h]
    have hg := gEffsF_ok n ((gDigit n 3 9).toNat + 1) 0 [] (fun r hr => by cases hr)
    simp only [List.length_nil] at hg
    have hcm : comm (gEffsF n ((gDigit n 3 9).toNat + 1) 0 []) = true := by
      unfold comm
      rw [List.all_eq_true]
      intro r hr
      simpa using (hg.1 r hr).2.2
    refine ⟨?_, List.all_eq_true.2 fun r hr => (hg.1 r hr).2.1⟩
    unfold vUpd
    rw [if_neg (by omega), if_neg (by omega), if_neg (by omega), vEffs_all (fun r hr => (hg.1 r hr).1), if_neg (by simp), if_neg]
    simp [hcm]

theorem gUpdsF_ok (l : List (List Cell)) (c : Nat) (hc : c < 3) : ∀ (d i : Nat) (q : Int) (acc : List (List Cell)), 0 ≤ q → (∀ r ∈ acc, okUpd r) → ∀ r ∈ gUpdsF l c d i q acc, okUpd r
  | 0, _, _, _, _, h => h
  | d + 1, i, q, acc, hq, h => by
    unfold gUpdsF
    split
    · rename_i hg
      refine gUpdsF_ok l c hc d (i + 1) (q + 1) _ (by omega) fun r hr => ?_
      rcases List.mem_append.1 hr with hr | hr
      · exact h r hr
      · rw [List.mem_singleton.1 hr]
        exact gUpd_ok _ _ _ (by omega) (by omega) (by omega) (by omega)
    · exact gUpdsF_ok l c hc d (i + 1) q acc hq h

theorem gUpds_ok (l : List (List Cell)) : (∀ r ∈ gUpds l, okUpd r) ∧ (gUpds l).length ≤ 72 := by
  have hm := Nat.min_le_right l.length 24
  have b0 := gUpdsF_len l 0 (min l.length 24) 0 0 []
  have b1 := gUpdsF_len l 1 (min l.length 24) 0 0 (gUpdsF l 0 (min l.length 24) 0 0 [])
  have b2 := gUpdsF_len l 2 (min l.length 24) 0 0 (gUpdsF l 1 (min l.length 24) 0 0 (gUpdsF l 0 (min l.length 24) 0 0 []))
  simp only [List.length_nil] at b0
  refine ⟨gUpdsF_ok l 2 (by omega) _ 0 0 _ (by omega) (gUpdsF_ok l 1 (by omega) _ 0 0 _ (by omega) (gUpdsF_ok l 0 (by omega) _ 0 0 [] (by omega) (fun r hr => by cases hr))), ?_⟩
  unfold gUpds
  omega

/-- a cut within an effect -/
theorem deff_cut {r : List Cell} (h : goodE r) {n : Nat} (hn : n < (effEnc r).length) : (deff ((effEnc r).take n)).2.2 = 1 := by
  obtain ⟨h0, h1, h2, h3, h4⟩ := goodE_facts h
  have hx : effEnc r = uenc (IntKind.wrap .u64 (nr r 0)) ++ (senc (ns r 1) ++ (senc (ns r 2) ++ (uenc (zig (nr r 3)) ++ senc (ns r 4)))) := rfl
  rw [hx] at hn ⊢
  have c1 := fun k => rnum2_cut (v := nr r 0) (n := k)
  have p1 := fun rest => rnum2_enc (v := nr r 0) (by omega) (by omega) rest
  have c2 := fun k => sdec_cut (s := ns r 1) (by omega) (n := k)
  have p2 := fun rest => sdec_senc (s := ns r 1) (by omega) rest
  have c3 := fun k => sdec_cut (s := ns r 2) (by omega) (n := k)
  have p3 := fun rest => sdec_senc (s := ns r 2) (by omega) rest
  have c4 := fun k => idec_cut (v := nr r 3) h.2 (n := k)
  have p4 := fun rest => idec_enc (v := nr r 3) h.2 rest
  have c5 := fun k => sdec_cut (s := ns r 4) (by omega) (n := k)
  generalize uenc (IntKind.wrap .u64 (nr r 0)) = A at *
  generalize senc (ns r 1) = B at *
  generalize senc (ns r 2) = C at *
  generalize uenc (zig (nr r 3)) = D at *
  generalize senc (ns r 4) = F at *
  simp only [List.length_append] at hn
  unfold deff
  simp only
  by_cases n1 : n < A.length
  · rw [List.take_append_of_le_length (by omega), c1 n n1, if_pos (by simp)]
  rw [List.take_append, List.take_of_length_le (by omega), p1]
  simp only
  rw [if_neg (by simp), drop_at A _ _ rfl]
  obtain ⟨m, rfl⟩ : ∃ m, n = A.length + m := ⟨n - A.length, by omega⟩
  rw [Nat.add_sub_cancel_left]
  by_cases n2 : m < B.length
  · rw [List.take_append_of_le_length (by omega), c2 m n2, if_pos (by simp)]
  rw [List.take_append, List.take_of_length_le (by omega), p2]
  simp only
  obtain ⟨k, rfl⟩ : ∃ k, m = B.length + k := ⟨m - B.length, by omega⟩
  rw [Nat.add_sub_cancel_left]
  rw [if_neg (by simp), show A ++ (B ++ (C ++ (D ++ F)).take k) = (A ++ B) ++ (C ++ (D ++ F)).take k by simp only [List.append_assoc], drop_at (A ++ B) _ _ (by simp only [List.length_append]; omega)]
  by_cases n3 : k < C.length
  · rw [List.take_append_of_le_length (by omega), c3 k n3, if_pos (by simp)]
  rw [List.take_append, List.take_of_length_le (by omega), p3]
  simp only
  obtain ⟨i, rfl⟩ : ∃ i, k = C.length + i := ⟨k - C.length, by omega⟩
  rw [Nat.add_sub_cancel_left]
  rw [if_neg (by simp), show (A ++ B) ++ (C ++ (D ++ F).take i) = (A ++ B ++ C) ++ (D ++ F).take i by simp only [List.append_assoc], drop_at (A ++ B ++ C) _ _ (by simp only [List.length_append]; omega)]
  by_cases n4 : i < D.length
  · rw [List.take_append_of_le_length (by omega), c4 i n4, if_pos (by simp)]
  rw [List.take_append, List.take_of_length_le (by omega), p4]
  simp only
  obtain ⟨j, rfl⟩ : ∃ j, i = D.length + j := ⟨i - D.length, by omega⟩
  rw [Nat.add_sub_cancel_left]
  rw [if_neg (by simp), show (A ++ B ++ C) ++ (D ++ F.take j) = (A ++ B ++ C ++ D) ++ F.take j by simp only [List.append_assoc], drop_at (A ++ B ++ C ++ D) _ _ (by simp only [List.length_append]; omega)]
  rw [c5 j (by omega), if_pos (by simp)]

theorem decEs_cut : ∀ (l pre acc : List (List Cell)) (k : Nat), (∀ r ∈ l, goodE r) → k < (effsEnc l).length → (decEs (pre ++ (effsEnc l).take k) l.length pre.length acc).2.2 = 1
  | [], pre, acc, k, _, hk => by simp [effsEnc] at hk
  | r :: l, pre, acc, k, h, hk => by
    have hr := h r List.mem_cons_self
    rw [effsEnc, List.length_append] at hk
    by_cases hc : k < (effEnc r).length
    · have e : (pre ++ (effsEnc (r :: l)).take k).drop ((pre.length : Nat) : Int).toNat = (effEnc r).take k := by
        rw [Int.toNat_natCast, List.drop_left, effsEnc, List.take_append_of_le_length (by omega)]
      have := deff_cut hr hc
      rw [List.length_cons, decEs, e, if_pos (by rw [this]; simp)]
      exact this
    · have et : (effsEnc (r :: l)).take k = effEnc r ++ (effsEnc l).take (k - (effEnc r).length) := by
        rw [effsEnc, List.take_append, List.take_of_length_le (by omega)]
      have ih := decEs_cut l (pre ++ effEnc r) (acc ++ [reEff r]) (k - (effEnc r).length) (fun q hq => h q (List.mem_cons_of_mem _ hq)) (by omega)
      have e : (pre ++ (effsEnc (r :: l)).take k).drop ((pre.length : Nat) : Int).toNat = effEnc r ++ (effsEnc l).take (k - (effEnc r).length) := by
        rw [Int.toNat_natCast, List.drop_left, et]
      rw [List.length_cons, decEs, e, deff_enc hr, if_neg (by simp)]
      simp only
      rw [et, ← List.append_assoc, ← Int.natCast_add, ← List.length_append]
      exact ih

theorem decU_cut {c q t : Int} {l : List (List Cell)} (h : vUpd c q t l = 0) (hn : l.all (fun e => okI (nr e 3)) = true) {k : Nat} (hk : k < (encU c q t l).length) : (decU ((encU c q t l).take k)).2.2.2.2.2 = 1 := by
  obtain ⟨h1, h2, h3, h4, h5, h6, h7, h8, h9⟩ := vUpd_ok h
  have hs := headU_small h
  have hg := good_all h hn
  rw [encU, List.length_append] at hk
  unfold decU
  by_cases hk1 : k < (encL (headU c q t l.length)).length
  · have e : (encU c q t l).take k = [] ++ (encL (headU c q t l.length)).take k := by
      rw [encU, List.take_append_of_le_length (by omega), List.nil_append]
    have e3 : rread ([] ++ (encL (headU c q t l.length)).take k) 4 = ([], 0, 1) := rread_cut (headU c q t l.length) [] [] k hs hk1
    rw [e, e3, if_pos (by simp)]
  · have et : (encU c q t l).take k = encL (headU c q t l.length) ++ (effsEnc l).take (k - (encL (headU c q t l.length)).length) := by
      rw [encU, List.take_append, List.take_of_length_le (by omega)]
    have e3 : rread ((encU c q t l).take k) 4 = ((headU c q t l.length).map reNum, ((encL (headU c q t l.length)).length : Int), 0) := by
      have := rread_enc ((effsEnc l).take (k - (encL (headU c q t l.length)).length)) (headU c q t l.length) [] [] hs
      rw [et]
      simpa [rread, headU] using this
    have e4 := decEs_cut l (encL (headU c q t l.length)) [] (k - (encL (headU c q t l.length)).length) hg (by omega)
    rw [← et] at e4
    rw [e3, if_neg (by simp)]
    have k0 : nr (Abs.rowAt ((headU c q t l.length).map reNum) 0) 0 = c := rfl
    have k1 : nr (Abs.rowAt ((headU c q t l.length).map reNum) 1) 0 = q := rfl
    have k2 : nr (Abs.rowAt ((headU c q t l.length).map reNum) 2) 0 = t := rfl
    have k3 : nr (Abs.rowAt ((headU c q t l.length).map reNum) 3) 0 = (l.length : Int) := rfl
    simp only [k0, k1, k2, k3, Int.toNat_natCast]
    rw [if_neg (by omega)]
    unfold finU
    rw [if_pos (by rw [e4]; simp)]
    exact e4

theorem encAll_app : ∀ (x y : List (List Cell)), encAll (x ++ y) = encAll x ++ encAll y
  | [], _ => rfl
  | r :: x, y => by rw [List.cons_append, encAll, encAll, encAll_app x y, List.append_assoc]

theorem encAll_okB : ∀ (x : List (List Cell)), (∀ r ∈ x, okUpd r) → okB (encAll x) = true
  | [], _ => rfl
  | r :: x, h => okB_app (encU_okB _ _ _ (h r List.mem_cons_self).2) (encAll_okB x (fun q hq => h q (List.mem_cons_of_mem _ hq)))

theorem encR_len {r : List Cell} (h : okUpd r) : (encR r).length ≤ 2000 := by
  have := encU_len (nr r 0) (nr r 1) (nr r 2) (good_short h.1 h.2)
  have := (vUpd_ok h.1).2.2.2.2.2.2.2.1
  unfold encR
  omega

theorem encAll_len : ∀ (x : List (List Cell)), (∀ r ∈ x, okUpd r) → (encAll x).length ≤ 2000 * x.length
  | [], _ => by simp [encAll]
  | r :: x, h => by
    have := encR_len (h r (List.mem_cons_self))
    have := encAll_len x (fun q hq => h q (List.mem_cons_of_mem _ hq))
    simp only [encAll, List.length_append, List.length_cons]
    omega

theorem encR_pos (r : List Cell) : 1 ≤ (encR r).length := by
  unfold encR encU headU
  simp only [encL, List.length_append]
  have := uenc_pos (IntKind.u64.wrap (nr [Cell.int IntKind.i64 (nr r 0)] 0))
  omega


end Go.Proofs.Ytkfniijfenkocaa
