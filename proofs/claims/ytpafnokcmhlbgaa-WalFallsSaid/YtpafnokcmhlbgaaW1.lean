/-
  The contracts of numbers, checksums, headers and records.
-/
import Derived.Test.YtpafnokcmhlbgaaEq1
import Derived.Test.YtpafnokcmhlbgaaWt
namespace Go.Proofs.Ytpafnokcmhlbgaa
open Go.Abs

theorem k11 (n k : Int) (hk : k < 4611686018427387904) : runF E (callOf L) 1 11 [.one (.int .i64 n), .one (.int .i64 k)] [] = some ([.one (.int .i64 (gIndex n k))], []) := by
  rw [e11]
  unfold gIndex
  by_cases h : k < 1
  · rw [if_pos h]
    exact ct (decide_eq_true h) rfl
  · rw [if_neg h]
    refine cf (decide_eq_false h) (cf (decide_eq_false (by omega)) (cf (decide_eq_false (by omega)) ?_))
    have h0 := Int.emod_nonneg n (show k ≠ 0 by omega)
    have h1 := Int.emod_lt_of_pos n (show 0 < k by omega)
    have hn : (k.natAbs : Int) = k := by omega
    have e : Int.tmod n k = n % k ∨ Int.tmod n k = n % k - k := by
      rw [Int.tmod_eq_emod]
      split
      · left; omega
      · right; omega
    refine congrArg (fun z => some ([AV.one (AC.int .i64 z)], ([] : List Block))) ?_
    rcases e with e | e
    · rw [e, wrap64 (by omega) (by omega), Int.tmod_eq_emod_of_nonneg (by omega), Int.add_emod_right]
      exact Int.emod_eq_of_lt h0 h1
    · rw [e, Int.sub_add_cancel, wrap64 (by omega) (by omega), Int.tmod_eq_emod_of_nonneg (by omega)]
      exact Int.emod_eq_of_lt h0 h1

theorem k72 (n : Nat) (v : Int) (x : List (List Cell)) (hn : n = x.length) (hx : x.length ≤ 1000000) : runF E (callOf L11) 1 72 [.one (.msl 5 0 n), .one (.int .u64 v), .one (.int .i64 8)] [.arr 5 x] = some ([.one (.msl 5 1 (x.length + 8))], [.dead, .arr 5 (x ++ bigF 8 v)]) := by
  rw [e72]
  dsimp only
  rw [shr_56, shr_48, shr_40, shr_32, shr_24, shr_16, shr_8, shr_0, big8]
  iterate 16 refine ct (by first | exact nbeq_of (by simp [hn]) | exact fits_mk (by simp; omega)) ?_
  simp

theorem k72b (n : Nat) (v : Int) (x : List (List Cell)) (hn : n = x.length) (hx : x.length ≤ 1000000) : runF E (callOf L11) 1 72 [.one (.msl 5 0 n), .one (.int .u64 v), .one (.int .i64 4)] [.arr 5 x] = some ([.one (.msl 5 1 (x.length + 4))], [.dead, .arr 5 (x ++ bigF 4 v)]) := by
  rw [e72_c1]
  rw [shr_24, shr_16, shr_8, shr_0, big4]
  iterate 8 refine ct (by first | exact nbeq_of (by simp [hn]) | exact fits_mk (by simp; omega)) ?_
  simp

theorem ov1 {x : List (List Cell)} {o p : Nat} {a b : List Cell} {y : List (List Cell)} (hp : p = o + y.length) (h : p < x.length) : overL (overL x o y) p [b] = overL x o (y ++ [b]) := by
  subst hp
  exact overL_over (by simp; omega)

theorem k72d (lo n c : Nat) (v : Int) (x : List (List Cell)) (h0 : 0 < x.length) (hc : n + 4 ≤ c) (hx : lo + n + 4 ≤ x.length) : runF E (callOf L11) 1 72 [.one (.win 5 0 lo n (some c)), .one (.int .u64 v), .one (.int .i64 4)] [.arr 5 x] = some ([.one (.win 5 0 lo (n + 4) (some c))], [.arr 5 (overL x (lo + n) (bigF 4 v))]) := by
  rw [e72_c3]
  dsimp only
  rw [shr_24, shr_16, shr_8, shr_0, big4]
  simp only [List.length_cons, List.length_nil, Nat.zero_add]
  have l1 : ∀ y : List (List Cell), y.length ≤ 4 → (overL x (lo + n) y).length = x.length := fun y hy => overL_len (by omega)
  rw [ov1 (a := []) (by simp; omega) (by omega), ov1 (a := []) (by simp; omega) (by omega), ov1 (a := []) (by simp; omega) (by omega)]
  simp only [List.nil_append, List.cons_append]
  iterate 12 refine ct (by first | exact nblt_of (by first | omega | (rw [l1 _ (by simp)]; omega)) | exact nble_of (by first | omega | (rw [l1 _ (by simp)]; omega))) ?_
  rfl

theorem k72c (lo n c : Nat) (v : Int) (x : List (List Cell)) (h0 : 0 < x.length) (hc : n + 8 ≤ c) (hx : lo + n + 8 ≤ x.length) : runF E (callOf L11) 1 72 [.one (.win 5 0 lo n (some c)), .one (.int .u64 v), .one (.int .i64 8)] [.arr 5 x] = some ([.one (.win 5 0 lo (n + 8) (some c))], [.arr 5 (overL x (lo + n) (bigF 8 v))]) := by
  rw [e72_c2]
  dsimp only
  rw [shr_56, shr_48, shr_40, shr_32, shr_24, shr_16, shr_8, shr_0, big8]
  simp only [List.length_cons, List.length_nil, Nat.zero_add]
  have l1 : ∀ y : List (List Cell), y.length ≤ 8 → (overL x (lo + n) y).length = x.length := fun y hy => overL_len (by omega)
  iterate 7 rw [ov1 (a := []) (by simp; omega) (by omega)]
  simp only [List.nil_append, List.cons_append]
  iterate 24 refine ct (by first | exact nblt_of (by first | omega | (rw [l1 _ (by simp)]; omega)) | exact nble_of (by first | omega | (rw [l1 _ (by simp)]; omega))) ?_
  rfl

end Go.Proofs.Ytpafnokcmhlbgaa
