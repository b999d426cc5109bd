/-
  Tools: conditions, parts of lists, numbers as bytes.
-/
import Derived.Test.YtpafnokcmhlbgaaDefs
namespace Go.Proofs.Ytpafnokcmhlbgaa
open Go.Abs

theorem nbeq_of {a b : Nat} (h : a = b) : Nat.beq a b = true := by subst h; exact nbeq_self _
theorem nble_of {a b : Nat} (h : a ≤ b) : Nat.ble a b = true := Nat.ble_eq_true_of_le h
theorem nblt_of {a b : Nat} (h : a < b) : Nat.blt a b = true := Nat.ble_eq_true_of_le h
theorem nblt_no {a b : Nat} (h : b ≤ a) : Nat.blt a b = false := by
  cases hc : Nat.blt a b with
  | false => rfl
  | true => have := Nat.le_of_ble_eq_true hc; omega
theorem fits_mk {n : Nat} (h : n ≤ 4294967296) : fits n = true := nble_of h
theorem okMake_mk {n : Int} (h0 : 0 ≤ n) (h : n ≤ 4294967296) : okMake n n = true := by
  unfold okMake
  simp only [Bool.and_eq_true, decide_eq_true_eq]
  exact ⟨⟨h0, Int.le_refl _⟩, fits_mk (by omega)⟩
theorem and_mk {a b : Bool} (h1 : a = true) (h2 : b = true) : (a && b) = true := by simp [h1, h2]
theorem inB_mk {i : Int} {n : Nat} (h0 : 0 ≤ i) (h : i < n) : inB i n = true := by simp [inB, h0, h]
theorem inB_le {i : Int} {n : Nat} (h0 : 0 ≤ i) (h : i ≤ n) : inB i (n + 1) = true := by simp [inB, h0]; omega

theorem overL_eq (x : List (List Cell)) (o : Nat) (y : List (List Cell)) : overL x o y = x.take o ++ (y ++ x.drop (o + y.length)) := by
  simp only [overL, app_eq, takeN_eq, dropN_eq, lenN_eq]
theorem overL_len {x : List (List Cell)} {o : Nat} {y : List (List Cell)} (h : o + y.length ≤ x.length) : (overL x o y).length = x.length := by
  rw [overL_eq]; simp only [List.length_append, List.length_take, List.length_drop]; omega
theorem overL_nil (x : List (List Cell)) (o : Nat) : overL x o [] = x := by rw [overL_eq]; simp
theorem overL_over {x : List (List Cell)} {o : Nat} {y z : List (List Cell)} (h : o + y.length + z.length ≤ x.length) : overL (overL x o y) (o + y.length) z = overL x o (y ++ z) := by
  have hl : (overL x o y).length = x.length := overL_len (by omega)
  rw [overL_eq (overL x o y), overL_eq x o y, overL_eq x o (y ++ z)]
  have h1 : (x.take o ++ (y ++ x.drop (o + y.length))).take (o + y.length) = x.take o ++ y := by
    rw [← List.append_assoc, List.take_append_of_le_length (by simp; omega), List.take_of_length_le (by simp; omega)]
  have h2 : (x.take o ++ (y ++ x.drop (o + y.length))).drop (o + y.length + z.length) = x.drop (o + (y ++ z).length) := by
    rw [← List.append_assoc, List.drop_append, List.drop_eq_nil_of_le (by simp; omega), List.nil_append, List.drop_drop, List.length_append]
    congr 1
    simp only [List.length_append, List.length_take]
    omega
  rw [h1, h2]
  simp
theorem subL_eq (x : List (List Cell)) (lo hi : Nat) : subL x lo hi = (x.take hi).drop lo := by simp only [subL, takeN_eq, dropN_eq]
theorem subL_len {x : List (List Cell)} {lo hi : Nat} (h : hi ≤ x.length) : (subL x lo hi).length = hi - lo := by
  rw [subL_eq]; simp only [List.length_drop, List.length_take]; omega
theorem okB_sub {x : List (List Cell)} (h : okB x = true) (lo hi : Nat) : okB (subL x lo hi) = true := by
  rw [subL_eq]; exact okB_drop (okB_take h _) _
theorem okB_over {x y : List (List Cell)} (hx : okB x = true) (hy : okB y = true) (o : Nat) : okB (overL x o y) = true := by
  rw [overL_eq]; exact okB_app (okB_take hx _) (okB_app hy (okB_drop hx _))
theorem okB_rep (n : Nat) : okB (List.replicate n [.int .u8 0]) = true := by
  induction n with
  | zero => rfl
  | succ n ih =>
    rw [List.replicate_succ]
    simp only [okB, List.all_cons, isByte] at ih ⊢
    simp [ih]

theorem bigF_len : ∀ (k : Nat) (v : Int), (bigF k v).length = k
  | 0, _ => rfl
  | k + 1, v => by simp [bigF, bigF_len k]
theorem bigF_okB : ∀ (k : Nat) (v : Int), okB (bigF k v) = true
  | 0, _ => rfl
  | k + 1, v => by
    refine okB_app (bigF_okB k _) ?_
    simp only [okB, List.all_cons, List.all_nil, isByte, Bool.and_true, Bool.and_eq_true, decide_eq_true_eq]
    omega

theorem shr_u64 (v : Int) (k : Nat) (h : k ≤ 64) : shrI .u64 v (k : Int) = v / 2 ^ k := by
  unfold shrI
  have e : min ((k : Int).toNat) IntKind.u64.bits = k := by
    have : IntKind.u64.bits = 64 := rfl
    rw [this]; omega
  rw [e, Int.fdiv_eq_ediv_of_nonneg]
  exact Int.le_of_lt (Int.pow_pos (by decide))

theorem shr_56 (v : Int) : IntKind.wrap .u8 (shrI .u64 v 56) = v / 72057594037927936 % 256 := by rw [show (56 : Int) = ((56 : Nat) : Int) from rfl, shr_u64 v 56 (by omega), wrapu8_eq]; rfl
theorem shr_48 (v : Int) : IntKind.wrap .u8 (shrI .u64 v 48) = v / 281474976710656 % 256 := by rw [show (48 : Int) = ((48 : Nat) : Int) from rfl, shr_u64 v 48 (by omega), wrapu8_eq]; rfl
theorem shr_40 (v : Int) : IntKind.wrap .u8 (shrI .u64 v 40) = v / 1099511627776 % 256 := by rw [show (40 : Int) = ((40 : Nat) : Int) from rfl, shr_u64 v 40 (by omega), wrapu8_eq]; rfl
theorem shr_32 (v : Int) : IntKind.wrap .u8 (shrI .u64 v 32) = v / 4294967296 % 256 := by rw [show (32 : Int) = ((32 : Nat) : Int) from rfl, shr_u64 v 32 (by omega), wrapu8_eq]; rfl
theorem shr_24 (v : Int) : IntKind.wrap .u8 (shrI .u64 v 24) = v / 16777216 % 256 := by rw [show (24 : Int) = ((24 : Nat) : Int) from rfl, shr_u64 v 24 (by omega), wrapu8_eq]; rfl
theorem shr_16 (v : Int) : IntKind.wrap .u8 (shrI .u64 v 16) = v / 65536 % 256 := by rw [show (16 : Int) = ((16 : Nat) : Int) from rfl, shr_u64 v 16 (by omega), wrapu8_eq]; rfl
theorem shr_8 (v : Int) : IntKind.wrap .u8 (shrI .u64 v 8) = v / 256 % 256 := by rw [show (8 : Int) = ((8 : Nat) : Int) from rfl, shr_u64 v 8 (by omega), wrapu8_eq]; rfl
theorem shr_0 (v : Int) : IntKind.wrap .u8 (shrI .u64 v 0) = v % 256 := by rw [show (0 : Int) = ((0 : Nat) : Int) from rfl, shr_u64 v 0 (by omega), wrapu8_eq]; simp

theorem big4 (v : Int) : bigF 4 v = [[.int .u8 (v / 16777216 % 256)], [.int .u8 (v / 65536 % 256)], [.int .u8 (v / 256 % 256)], [.int .u8 (v % 256)]] := by
  simp only [bigF, List.nil_append, List.cons_append]
  rw [show v / 256 / 256 / 256 = v / 16777216 by omega, show v / 256 / 256 = v / 65536 by omega]
theorem big8 (v : Int) : bigF 8 v = [[.int .u8 (v / 72057594037927936 % 256)], [.int .u8 (v / 281474976710656 % 256)], [.int .u8 (v / 1099511627776 % 256)], [.int .u8 (v / 4294967296 % 256)], [.int .u8 (v / 16777216 % 256)], [.int .u8 (v / 65536 % 256)], [.int .u8 (v / 256 % 256)], [.int .u8 (v % 256)]] := by
  simp only [bigF, List.nil_append, List.cons_append]
  rw [show v / 256 / 256 / 256 / 256 / 256 / 256 / 256 = v / 72057594037927936 by omega, show v / 256 / 256 / 256 / 256 / 256 / 256 = v / 281474976710656 by omega, show v / 256 / 256 / 256 / 256 / 256 = v / 1099511627776 by omega,
    show v / 256 / 256 / 256 / 256 = v / 4294967296 by omega, show v / 256 / 256 / 256 = v / 16777216 by omega, show v / 256 / 256 = v / 65536 by omega]

theorem numF_app (x y : List (List Cell)) : ∀ (a : Int), numF a (x ++ y) = numF (numF a x) y := by
  induction x with
  | nil => intro a; rfl
  | cons r x ih => intro a; simp only [List.cons_append, numF, ih]
theorem numF_big : ∀ (k : Nat) (a v : Int), 0 ≤ v → v < 256 ^ k → numF a (bigF k v) = a * 256 ^ k + v
  | 0, a, v, h0, h => by simp [bigF, numF] at h ⊢; omega
  | k + 1, a, v, h0, h => by
    have e : (256 : Int) ^ (k + 1) = 256 ^ k * 256 := Int.pow_succ _ _
    have hp : (0 : Int) < 256 ^ k := Int.pow_pos (by decide)
    rw [bigF, numF_app, numF_big k a (v / 256) (by omega) (by rw [e] at h; omega)]
    show (a * 256 ^ k + v / 256) * 256 + v % 256 = a * 256 ^ (k + 1) + v
    rw [e, ← Int.mul_assoc]
    generalize a * 256 ^ k = q
    omega
theorem numF_bound : ∀ (x : List (List Cell)) (a : Int), okB x = true → 0 ≤ a → 0 ≤ numF a x ∧ numF a x < (a + 1) * 256 ^ x.length
  | [], a, _, h0 => by simp [numF]; omega
  | r :: x, a, hx, h0 => by
    have h1 : 0 ≤ nr r 0 ∧ nr r 0 < 256 := okB_at hx (i := 0) (by simp)
    have h2 : okB x = true := by have := okB_drop hx 1; simpa using this
    have ih := numF_bound x (a * 256 + nr r 0) h2 (by omega)
    refine ⟨ih.1, Int.lt_of_lt_of_le ih.2 ?_⟩
    have e : (256 : Int) ^ (x.length + 1) = 256 * 256 ^ x.length := by rw [Int.pow_succ, Int.mul_comm]
    have hp : (0 : Int) < 256 ^ x.length := Int.pow_pos (by decide)
    rw [List.length_cons, e, ← Int.mul_assoc]
    exact Int.mul_le_mul_of_nonneg_right (by omega) (by omega)

theorem okV_mk {v : Int} (h0 : 0 ≤ v) (h : v < 18446744073709551616) : okV v = true := and_mk (pd_t h0) (pd_t h)
theorem okV_of {v : Int} (h : okV v = true) : 0 ≤ v ∧ v < 18446744073709551616 := by
  unfold okV at h
  simp only [Bool.and_eq_true] at h
  exact ⟨pd_of h.1, pd_of h.2⟩
theorem okSz_of {k : Int} (h : okSz k = true) : k = 4 ∨ k = 8 := by
  unfold okSz at h
  simpa using h

theorem xor_u32 (a b : Int) : 0 ≤ xorI .u32 a b ∧ xorI .u32 a b < 4294967296 := by
  unfold xorI
  have : ∀ n : Int, IntKind.u32.wrap n = n % 4294967296 := fun n => by
    have h1 : (2 : Int) ^ IntKind.u32.bits = 4294967296 := by decide
    have e : IntKind.u32.wrap n = if (IntKind.u32.signed && decide (n % 2 ^ IntKind.u32.bits ≥ 2 ^ (IntKind.u32.bits - 1))) = true then n % 2 ^ IntKind.u32.bits - 2 ^ IntKind.u32.bits else n % 2 ^ IntKind.u32.bits := rfl
    rw [e, h1]
    simp [IntKind.signed]
  rw [this]
  omega
theorem crcS_range (x : List (List Cell)) : 0 ≤ crcS x ∧ crcS x < 4294967296 := xor_u32 _ _
theorem wSum_range (g o : Int) (x : List (List Cell)) : 0 ≤ wSum g o x ∧ wSum g o x < 4294967296 := crcS_range _

end Go.Proofs.Ytpafnokcmhlbgaa
