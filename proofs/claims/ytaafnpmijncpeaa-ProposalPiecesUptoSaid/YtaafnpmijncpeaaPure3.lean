/-
  The contracts of the functions that encode.
-/
import Derived.Test.YtaafnpmijncpeaaPure2
import Derived.Test.YtaafnpmijncpeaaBytes
namespace Go.Proofs.Ytaafnpmijncpeaa
open Go.Abs

theorem fits_of {n : Nat} (h : n ≤ 4294967296) : fits n = true := by
  unfold fits LIM
  exact Nat.ble_eq_true_of_le h

theorem okEnc_of {x : List (List Cell)} {v : Int} (h : okEnc x v = true) : x.length ≤ 4000000 ∧ 0 ≤ v ∧ v < 18446744073709551616 := by
  unfold okEnc at h
  simp only [Bool.and_eq_true, decide_eq_true_eq] at h
  exact h

theorem okEnc_mk {x : List (List Cell)} {v : Int} (h1 : x.length ≤ 4000000) (h2 : 0 ≤ v) (h3 : v < 18446744073709551616) : okEnc x v = true := by
  unfold okEnc
  simp only [Bool.and_eq_true, decide_eq_true_eq]
  exact ⟨h1, h2, h3⟩

theorem l32 (x : List (List Cell)) (hx : x.length ≤ 4000000) : ∀ (k : Nat) (v : Int) (acc : List (List Cell)), 0 ≤ v → v < 128 ^ k → v < 18446744073709551616 → 1 ≤ k → acc.length + k ≤ 1000 →
    ∃ m, goF E (callOf L6) F32 0 m P32_0 (M32_0 x v acc) = some ([.one (.sl true 5 (x ++ (acc ++ uencF k v)))], [])
  | 0, _, _, _, _, _, h, _ => by omega
  | k + 1, v, acc, h0, h1, h2, _, hl => by
    by_cases hs : v < 128
    · refine ⟨1, ?_⟩
      rw [e32_0]
      refine cf (decide_eq_false (by omega)) (ct (fits_of (by simp; omega)) (ct (inB_nat' (by omega)) (ct (by simp) (ct (fits_of (by simp [takeN_eq]; omega)) ?_))))
      rw [takeN_eq, Int.toNat_natCast, List.take_length, wrap8 (by omega) (by omega), uencF, if_pos hs]
    · have hk : 1 ≤ k := by
        cases k with
        | zero => simp at h1; omega
        | succ k => omega
      obtain ⟨m, hm⟩ := l32 x hx k (v / 128) (acc ++ [[.int .u8 (v % 128 + 128)]]) (by omega) (by rw [Int.pow_succ] at h1; omega) (by omega) hk (by simp; omega)
      refine ⟨m + 1, ?_⟩
      rw [e32_0]
      refine ct (decide_eq_true (by omega)) (ct (fits_of (by simp; omega)) ?_)
      have e : orI .u8 (IntKind.wrap .u8 v) 128 = v % 128 + 128 := by
        rw [wrapu8_eq, or8 (by omega) (by omega)]
        omega
      rw [e, shr7, hm, uencF, if_neg hs, List.append_assoc]
      rfl

theorem pow10 {v : Int} (h : v < 18446744073709551616) : v < 128 ^ 10 := by
  have e : (128 : Int) ^ 10 = 1180591620717411303424 := by decide
  rw [e]; omega

theorem k32 (x : List (List Cell)) (v : Int) (h : okEnc x v = true) : ∃ m, runF E (callOf L6) m 32 [.one (.sl false 5 x), .one (.int .u64 v)] [] = some ([.one (.sl true 5 (x ++ uenc v))], []) := by
  obtain ⟨h1, h2, h3⟩ := okEnc_of h
  obtain ⟨m, hm⟩ := l32 x h1 10 v [] h2 (pow10 h3) h3 (by omega) (by simp)
  exact ⟨m + 1, by rw [e32]; exact hm⟩

theorem l41 : ∀ (k : Nat) (v : Int) (acc : List (List Cell)), 0 ≤ v → v < 128 ^ k → v < 18446744073709551616 → 1 ≤ k → acc.length + k ≤ 4001000 →
    ∃ m, goF E (callOf L32) F41 0 m P41_0 (M41_0 v acc) = some ([.one (.sl true 5 (acc ++ uencF k v))], [])
  | 0, _, _, _, _, _, h, _ => by omega
  | k + 1, v, acc, h0, h1, h2, _, hl => by
    by_cases hs : v < 128
    · refine ⟨1, ?_⟩
      rw [e41_0]
      refine cf (decide_eq_false (by omega)) (ct (fits_of (by simp; omega)) ?_)
      rw [wrap8 (by omega) (by omega), uencF, if_pos hs]
    · have hk : 1 ≤ k := by
        cases k with
        | zero => simp at h1; omega
        | succ k => omega
      obtain ⟨m, hm⟩ := l41 k (v / 128) (acc ++ [[.int .u8 (v % 128 + 128)]]) (by omega) (by rw [Int.pow_succ] at h1; omega) (by omega) hk (by simp; omega)
      refine ⟨m + 1, ?_⟩
      rw [e41_0]
      refine ct (decide_eq_true (by omega)) (ct (fits_of (by simp; omega)) ?_)
      have e1 : Int.tmod v 128 = v % 128 := Int.tmod_eq_emod_of_nonneg h0
      have e2 : Int.tdiv v 128 = v / 128 := Int.tdiv_eq_ediv_of_nonneg h0
      rw [e1, e2, wrap8 (n := v % 128) (by omega) (by omega), wrap8 (by omega) (by omega), wrapu (by omega) (by omega), hm, uencF, if_neg hs, List.append_assoc]
      rfl

theorem k41 (x : List (List Cell)) (v : Int) (h : okEnc x v = true) : ∃ m, runF E (callOf L32) m 41 [.one (.sl false 5 x), .one (.int .u64 v)] [] = some ([.one (.sl true 5 (x ++ uenc v))], []) := by
  obtain ⟨h1, h2, h3⟩ := okEnc_of h
  obtain ⟨m, hm⟩ := l41 10 v ([] ++ x) h2 (pow10 h3) h3 (by omega) (by simp; omega)
  refine ⟨m + 1, ?_⟩
  rw [e41]
  exact ct (fits_of (by simp; omega)) hm

theorem okRd_of {x : List (List Cell)} (h : okRd x = true) : okB x = true ∧ x.length ≤ 4000000 := by
  unfold okRd okLen at h
  simpa using h

theorem okRd_mk {x : List (List Cell)} (h1 : okB x = true) (h2 : x.length ≤ 4000000) : okRd x = true := by
  unfold okRd okLen
  simp [h1, h2]

theorem okRd_drop {x : List (List Cell)} (h : okRd x = true) (n : Nat) : okRd (x.drop n) = true :=
  okRd_mk (okB_drop (okRd_of h).1 n) (by have := (okRd_of h).2; simp; omega)

/-- the results of a reading as the code hands them back -/
def rd3 (r : Int × Int × Int) : List AV × List Block := ([.one (.int .u64 r.1), .one (.int .i64 r.2.1), .one (.int .i64 r.2.2)], [])

theorem udecF_step (k : Nat) (i : Nat) (acc : Int) (x : List (List Cell)) (hi : i < x.length) : udecF (k + 1) i acc (x.drop i) =
    if k = 0 ∧ 1 < nr (Abs.rowAt x i) 0 then (0, 0, 9)
    else if nr (Abs.rowAt x i) 0 < 128 then (if nr (Abs.rowAt x i) 0 = 0 ∧ 0 < i then (0, 0, 2) else (acc + nr (Abs.rowAt x i) 0 * 128 ^ i, (i : Int) + 1, 0))
    else udecF k ((i + 1 : Nat) : Int) (acc + (nr (Abs.rowAt x i) 0 - 128) * 128 ^ i) (x.drop (i + 1)) := by
  rw [drop_cons x i hi, udecF]
  simp only [Int.toNat_natCast]
  rw [show ((i : Int) + 1) = ((i + 1 : Nat) : Int) by omega]
  simp only [Int.natCast_pos]

theorem l40 (x : List (List Cell)) (hx : okRd x = true) : ∀ (k i : Nat) (acc : Int), i + k = 9 → 1 ≤ i → i ≤ x.length → 0 ≤ acc → acc < 128 ^ i →
    ∃ m, goF E (callOf L41) F40 0 m P40_0 (M40_0 x acc i) = some (rd3 (udecF (k + 1) i acc (x.drop i))) := by
  intro k
  induction k with
  | zero =>
    intro i acc hi h1 hl h0 hacc
    have h9 : i = 9 := by omega
    subst h9
    by_cases hend : 9 = x.length
    · refine ⟨1, ?_⟩
      rw [e40_0]
      refine ct (by simp; omega) ?_
      have : x.drop 9 = [] := List.drop_eq_nil_of_le (by omega)
      rw [this, udecF]
      rfl
    · refine ⟨1, ?_⟩
      obtain ⟨c0, c1⟩ := okB_at (okRd_of hx).1 (i := 9) (by omega)
      rw [e40_0, udecF_step 0 9 acc x (by omega)]
      refine cf (by simp; omega) (ct (inB_nat' (by omega)) (ct (by simp) ?_))
      simp only [Int.toNat_natCast]
      by_cases hc : 1 < nr (Abs.rowAt x 9) 0
      · rw [if_pos ⟨by trivial, hc⟩]
        exact ct (decide_eq_true hc) rfl
      · rw [if_neg (fun h => hc h.2), if_pos (by omega)]
        refine cf (decide_eq_false hc) ?_
        rw [wrap64 (n := 7 * ((9 : Nat) : Int)) (by omega) (by omega), wrap64 (n := ((9 : Nat) : Int) + 1) (by omega) (by omega)]
        refine cf (by decide) ?_
        refine cf (decide_eq_false (by omega)) ?_
        by_cases hz : nr (Abs.rowAt x 9) 0 = 0
        · rw [if_pos ⟨hz, by omega⟩]
          exact ct (by simpa using hz) (ct (by decide) rfl)
        · rw [if_neg (fun h => hz h.1)]
          refine cf (by simpa using hz) ?_
          rw [andNot8 c0 c1, wrapu (by omega) (by omega), show nr (Abs.rowAt x 9) 0 % 128 = nr (Abs.rowAt x 9) 0 by omega]
          have := (step64 (i := 9) h0 hacc c0 (by omega) (by omega) (fun _ => by omega)).1
          rw [show (7 * ((9 : Nat) : Int)) = ((7 * 9 : Nat) : Int) by omega, this]
          rfl
  | succ k ih =>
    intro i acc hi h1 hl h0 hacc
    by_cases hend : i = x.length
    · refine ⟨1, ?_⟩
      rw [e40_0]
      refine ct (by simp; omega) ?_
      have : x.drop i = [] := List.drop_eq_nil_of_le (by omega)
      rw [this, udecF]
      rfl
    · obtain ⟨c0, c1⟩ := okB_at (okRd_of hx).1 (i := i) (by omega)
      have hs := step64 (c := nr (Abs.rowAt x i) 0 % 128) (i := i) h0 hacc (by omega) (by omega) (by omega) (fun h => by omega)
      have hw : IntKind.u64.wrap (andNotI .u8 (nr (Abs.rowAt x i) 0) 128) = nr (Abs.rowAt x i) 0 % 128 := by
        rw [andNot8 c0 c1, wrapu (by omega) (by omega)]
      rw [udecF_step (k + 1) i acc x (by omega), if_neg (by omega)]
      by_cases hc : nr (Abs.rowAt x i) 0 < 128
      · refine ⟨1, ?_⟩
        rw [e40_0]
        refine cf (by simp; omega) (ct (inB_nat' (by omega)) (cf (by simp; omega) ?_))
        rw [wrap64 (n := 7 * (i : Int)) (by omega) (by omega), wrap64 (n := (i : Int) + 1) (by omega) (by omega), Int.toNat_natCast]
        refine cf (decide_eq_false (by omega)) ?_
        refine cf (decide_eq_false (by omega)) ?_
        rw [if_pos hc]
        by_cases hz : nr (Abs.rowAt x i) 0 = 0
        · rw [if_pos ⟨hz, by omega⟩]
          exact ct (by simpa using hz) (ct (decide_eq_true (by omega)) rfl)
        · rw [if_neg (fun h => hz h.1)]
          refine cf (by simpa using hz) ?_
          rw [hw, show (7 * (i : Int)) = ((7 * i : Nat) : Int) by omega, hs.1, show nr (Abs.rowAt x i) 0 % 128 = nr (Abs.rowAt x i) 0 by omega]
          rfl
      · rw [if_neg hc]
        obtain ⟨m, hm⟩ := ih (i + 1) (acc + (nr (Abs.rowAt x i) 0 % 128) * 128 ^ i) (by omega) (by omega) (by omega) hs.2.1 hs.2.2.1
        refine ⟨m + 1, ?_⟩
        rw [e40_0]
        refine cf (by simp; omega) (ct (inB_nat' (by omega)) (cf (by simp; omega) ?_))
        rw [wrap64 (n := 7 * (i : Int)) (by omega) (by omega), wrap64 (n := (i : Int) + 1) (by omega) (by omega), Int.toNat_natCast]
        refine cf (decide_eq_false (by omega)) ?_
        refine ct (decide_eq_true (by omega)) ?_
        rw [hw, show (7 * (i : Int)) = ((7 * i : Nat) : Int) by omega, hs.1, show (i : Int) + 1 = ((i + 1 : Nat) : Int) by omega, hm, show nr (Abs.rowAt x i) 0 % 128 = nr (Abs.rowAt x i) 0 - 128 by omega]

theorem k40 (x : List (List Cell)) (hx : okRd x = true) : ∃ m, runF E (callOf L41) m 40 [.one (.sl false 5 x)] [] = some (rd3 (udec x)) := by
  unfold udec
  by_cases hend : x.length = 0
  · refine ⟨1, ?_⟩
    rw [e40]
    refine ct (by simp; omega) ?_
    rw [List.length_eq_zero_iff.1 hend, udecF]
    rfl
  · obtain ⟨c0, c1⟩ := okB_at (okRd_of hx).1 (i := 0) (by omega)
    have hs := step64 (acc := 0) (c := nr (Abs.rowAt x 0) 0 % 128) (i := 0) (by omega) (by simp) (by omega) (by omega) (by omega) (fun h => by omega)
    have hw : IntKind.u64.wrap (andNotI .u8 (nr (Abs.rowAt x 0) 0) 128) = nr (Abs.rowAt x 0) 0 % 128 := by
      rw [andNot8 c0 c1, wrapu (by omega) (by omega)]
    have hu := udecF_step 9 0 0 x (by omega)
    rw [List.drop_zero] at hu
    simp only [Int.ofNat_zero] at hu
    rw [hu, if_neg (by omega)]
    have hs1 : orI .u64 0 (shlI .u64 (nr (Abs.rowAt x 0) 0 % 128) 0) = nr (Abs.rowAt x 0) 0 % 128 := by
      have := hs.1
      simpa using this
    by_cases hc : nr (Abs.rowAt x 0) 0 < 128
    · refine ⟨1, ?_⟩
      rw [e40, if_pos hc, if_neg (by omega)]
      refine cf (by simp; omega) (ct (inB_of (by omega) (by omega)) ?_)
      refine cf (decide_eq_false (by omega)) ?_
      rw [hw, hs1, show nr (Abs.rowAt x 0) 0 % 128 = nr (Abs.rowAt x 0) 0 by omega]
      generalize nr (Abs.rowAt x 0) 0 = c
      unfold rd3
      cases (c == 0) <;> simp
    · obtain ⟨m, hm⟩ := l40 x hx 8 1 (nr (Abs.rowAt x 0) 0 % 128) (by omega) (by omega) (by omega) (by omega) (by simp; omega)
      refine ⟨m + 1, ?_⟩
      rw [e40, if_neg hc]
      refine cf (by simp; omega) (ct (inB_of (by omega) (by omega)) ?_)
      refine ct (decide_eq_true (by omega)) ?_
      rw [hw, hs1]
      refine Eq.trans hm ?_
      congr 2
      rw [show nr (Abs.rowAt x 0) 0 % 128 = 0 + (nr (Abs.rowAt x 0) 0 - 128) * 128 ^ 0 by simp; omega]

theorem l45 (x : List (List Cell)) (hx : okRd x = true) : ∀ (k i : Nat) (acc : Int), i + k = 9 → i ≤ x.length → 0 ≤ acc → acc < 128 ^ i →
    ∃ m, goF E (callOf L40) F45 0 m P45_0 (M45_0 x acc i) = some (rd3 (udecF (k + 1) i acc (x.drop i))) := by
  intro k
  induction k with
  | zero =>
    intro i acc hi hl h0 hacc
    have h9 : i = 9 := by omega
    subst h9
    refine ⟨1, ?_⟩
    rw [e45_0]
    refine ct (by simp) ?_
    by_cases hend : 9 = x.length
    · refine ct (by simp; omega) ?_
      have : x.drop 9 = [] := List.drop_eq_nil_of_le (by omega)
      rw [this, udecF]
      rfl
    · obtain ⟨c0, c1⟩ := okB_at (okRd_of hx).1 (i := 9) (by omega)
      rw [udecF_step 0 9 acc x (by omega)]
      refine cf (by simp; omega) (ct (by simp) (ct (inB_nat' (by omega)) ?_))
      simp only [Int.toNat_natCast]
      by_cases hc : 1 < nr (Abs.rowAt x 9) 0
      · rw [if_pos ⟨by trivial, hc⟩]
        exact ct (decide_eq_true hc) rfl
      · rw [if_neg (fun h => hc h.2), if_pos (by omega)]
        refine cf (decide_eq_false hc) ?_
        rw [inB_nat' (by omega : 9 < x.length), wrap64 (n := 7 * ((9 : Nat) : Int)) (by omega) (by omega), wrap64 (n := ((9 : Nat) : Int) + 1) (by omega) (by omega), wrapu (n := 7 * ((9 : Nat) : Int)) (by omega) (by omega)]
        refine ct rfl (cf (by decide) (ct rfl ?_))
        refine ct (decide_eq_true (by omega)) (ct rfl ?_)
        by_cases hz : nr (Abs.rowAt x 9) 0 = 0
        · rw [if_pos ⟨hz, by omega⟩]
          exact ct (by simpa using hz) (ct (by decide) rfl)
        · rw [if_neg (fun h => hz h.1)]
          refine cf (by simpa using hz) ?_
          rw [Int.tmod_eq_emod_of_nonneg c0, wrapu (n := nr (Abs.rowAt x 9) 0 % 128) (by omega) (by omega), show nr (Abs.rowAt x 9) 0 % 128 = nr (Abs.rowAt x 9) 0 by omega]
          have := (step64 (i := 9) h0 hacc c0 (by omega) (by omega) (fun _ => by omega)).1
          rw [show (7 * ((9 : Nat) : Int)) = ((7 * 9 : Nat) : Int) by omega, this]
          rfl
  | succ k ih =>
    intro i acc hi hl h0 hacc
    by_cases hend : i = x.length
    · refine ⟨1, ?_⟩
      rw [e45_0]
      refine ct (decide_eq_true (by omega)) (ct (by simp; omega) ?_)
      have : x.drop i = [] := List.drop_eq_nil_of_le (by omega)
      rw [this, udecF]
      rfl
    · obtain ⟨c0, c1⟩ := okB_at (okRd_of hx).1 (i := i) (by omega)
      have hs := step64 (c := nr (Abs.rowAt x i) 0 % 128) (i := i) h0 hacc (by omega) (by omega) (by omega) (fun h => by omega)
      have hw : IntKind.u64.wrap (Int.tmod (nr (Abs.rowAt x i) 0) 128) = nr (Abs.rowAt x i) 0 % 128 := by
        rw [Int.tmod_eq_emod_of_nonneg c0, wrapu (by omega) (by omega)]
      rw [udecF_step (k + 1) i acc x (by omega), if_neg (by omega)]
      by_cases hc : nr (Abs.rowAt x i) 0 < 128
      · refine ⟨1, ?_⟩
        rw [e45_0]
        rw [inB_nat' (by omega : i < x.length), wrap64 (n := 7 * (i : Int)) (by omega) (by omega), wrap64 (n := (i : Int) + 1) (by omega) (by omega), wrapu (n := 7 * (i : Int)) (by omega) (by omega), Int.toNat_natCast]
        refine ct (decide_eq_true (by omega)) (cf (by simp; omega) (cf (by simp; omega) (ct rfl (cf (decide_eq_false (by omega)) (ct rfl ?_)))))
        refine ct (decide_eq_true hc) (ct rfl ?_)
        rw [if_pos hc, hw, show (7 * (i : Int)) = ((7 * i : Nat) : Int) by omega, hs.1, show nr (Abs.rowAt x i) 0 % 128 = nr (Abs.rowAt x i) 0 by omega]
        by_cases hz : nr (Abs.rowAt x i) 0 = 0
        · refine ct (by simpa using hz) ?_
          by_cases hp : 0 < i
          · rw [if_pos ⟨hz, hp⟩]
            exact ct (decide_eq_true (by omega)) rfl
          · rw [if_neg (fun h => hp h.2)]
            exact cf (decide_eq_false (by omega)) rfl
        · rw [if_neg (fun h => hz h.1)]
          exact cf (by simpa using hz) rfl
      · rw [if_neg hc]
        obtain ⟨m, hm⟩ := ih (i + 1) (acc + (nr (Abs.rowAt x i) 0 % 128) * 128 ^ i) (by omega) (by omega) hs.2.1 hs.2.2.1
        refine ⟨m + 1, ?_⟩
        rw [e45_0]
        rw [inB_nat' (by omega : i < x.length), wrap64 (n := 7 * (i : Int)) (by omega) (by omega), wrap64 (n := (i : Int) + 1) (by omega) (by omega), wrapu (n := 7 * (i : Int)) (by omega) (by omega), Int.toNat_natCast]
        refine ct (decide_eq_true (by omega)) (cf (by simp; omega) (cf (by simp; omega) (ct rfl (cf (decide_eq_false (by omega)) (ct rfl ?_)))))
        refine cf (decide_eq_false hc) ?_
        rw [hw, show (7 * (i : Int)) = ((7 * i : Nat) : Int) by omega, hs.1, show (i : Int) + 1 = ((i + 1 : Nat) : Int) by omega, hm, show nr (Abs.rowAt x i) 0 % 128 = nr (Abs.rowAt x i) 0 - 128 by omega]

theorem k45 (x : List (List Cell)) (hx : okRd x = true) : ∃ m, runF E (callOf L40) m 45 [.one (.sl false 5 x)] [] = some (rd3 (udec x)) := by
  obtain ⟨m, hm⟩ := l45 x hx 9 0 0 (by omega) (by omega) (by omega) (by simp)
  exact ⟨m + 1, by rw [e45]; exact hm⟩

end Go.Proofs.Ytaafnpmijncpeaa
