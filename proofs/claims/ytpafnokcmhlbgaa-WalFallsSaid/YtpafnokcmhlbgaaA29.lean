/-
  Tools for the plain part: trees of conditions, rows, numbers.
-/
import Derived.Test.YtpafnokcmhlbgaaA28
namespace Go.Abs

theorem cs {α : Type} {b : Bool} {x y r : α} (h1 : b = true → x = r) (h2 : b = false → y = r) : cond b x y = r := by
  cases b
  · exact h2 rfl
  · exact h1 rfl

/-- a condition that is known to hold -/
theorem ct {α : Type} {b : Bool} {x y r : α} (h : b = true) (h1 : x = r) : cond b x y = r := by
  subst h; exact h1

theorem cf {α : Type} {b : Bool} {x y r : α} (h : b = false) (h1 : y = r) : cond b x y = r := by
  subst h; exact h1

theorem wrapi64_eq (n : Int) : IntKind.i64.wrap n = if 9223372036854775808 ≤ n % 18446744073709551616 then n % 18446744073709551616 - 18446744073709551616 else n % 18446744073709551616 := by
  have e : IntKind.i64.wrap n = if (IntKind.i64.signed && decide (n % 2 ^ IntKind.i64.bits ≥ 2 ^ (IntKind.i64.bits - 1))) = true then n % 2 ^ IntKind.i64.bits - 2 ^ IntKind.i64.bits else n % 2 ^ IntKind.i64.bits := rfl
  have h1 : (2 : Int) ^ IntKind.i64.bits = 18446744073709551616 := by decide
  have h2 : (2 : Int) ^ (IntKind.i64.bits - 1) = 9223372036854775808 := by decide
  rw [e, h1, h2]
  simp [IntKind.signed]

theorem wrapu64_eq (n : Int) : IntKind.u64.wrap n = n % 18446744073709551616 := by
  have h1 : (2 : Int) ^ IntKind.u64.bits = 18446744073709551616 := by decide
  have e : IntKind.u64.wrap n = if (IntKind.u64.signed && decide (n % 2 ^ IntKind.u64.bits ≥ 2 ^ (IntKind.u64.bits - 1))) = true then n % 2 ^ IntKind.u64.bits - 2 ^ IntKind.u64.bits else n % 2 ^ IntKind.u64.bits := rfl
  rw [e, h1]
  simp [IntKind.signed]

theorem wrapu8_eq (n : Int) : IntKind.u8.wrap n = n % 256 := by
  have h1 : (2 : Int) ^ IntKind.u8.bits = 256 := by decide
  have e : IntKind.u8.wrap n = if (IntKind.u8.signed && decide (n % 2 ^ IntKind.u8.bits ≥ 2 ^ (IntKind.u8.bits - 1))) = true then n % 2 ^ IntKind.u8.bits - 2 ^ IntKind.u8.bits else n % 2 ^ IntKind.u8.bits := rfl
  rw [e, h1]
  simp [IntKind.signed]

theorem wrap64 {n : Int} (h0 : -9223372036854775808 ≤ n) (h : n ≤ 9223372036854775807) : IntKind.i64.wrap n = n := by
  rw [wrapi64_eq]
  split <;> omega

theorem wrapu {n : Int} (h0 : 0 ≤ n) (h : n ≤ 18446744073709551615) : IntKind.u64.wrap n = n := by
  rw [wrapu64_eq]
  omega

theorem wrap8 {n : Int} (h0 : 0 ≤ n) (h : n ≤ 255) : IntKind.u8.wrap n = n := by
  rw [wrapu8_eq]
  omega

theorem wrapu_range (n : Int) : 0 ≤ IntKind.u64.wrap n ∧ IntKind.u64.wrap n < 18446744073709551616 := by
  rw [wrapu64_eq]
  omega

theorem inB_of {i : Int} {n : Nat} (h0 : 0 ≤ i) (h : i < n) : inB i n = true := by simp [inB, h0, h]

theorem inB_nat' {i n : Nat} (h : i < n) : inB (i : Int) n = true := by simp [inB, h]

theorem rowAt_drop (l : Rows) (i j : Nat) : rowAt (l.drop i) j = rowAt l (i + j) := by
  induction i generalizing l with
  | zero => simp
  | succ i ih =>
    cases l with
    | nil => simp [rowAt]
    | cons r l => rw [List.drop_succ_cons, ih, show i + 1 + j = (i + j) + 1 by omega, rowAt]

theorem rowAt_take (l : Rows) (i j : Nat) (h : j < i) : rowAt (l.take i) j = rowAt l j := by
  induction i generalizing l j with
  | zero => omega
  | succ i ih =>
    cases l with
    | nil => simp
    | cons r l =>
      cases j with
      | zero => rfl
      | succ j => rw [List.take_succ_cons, rowAt, rowAt]; exact ih l j (by omega)

theorem drop_cons (l : Rows) (i : Nat) (h : i < l.length) : l.drop i = rowAt l i :: l.drop (i + 1) := by
  rw [rowAt_eq h, List.drop_eq_getElem_cons h]

theorem take_snoc (l : Rows) (i : Nat) (h : i < l.length) : l.take (i + 1) = l.take i ++ [rowAt l i] := by
  rw [rowAt_eq h, List.take_succ_eq_append_getElem h]

theorem rowAt_append_left (l m : Rows) (i : Nat) (h : i < l.length) : rowAt (l ++ m) i = rowAt l i := by
  rw [rowAt_eq h, rowAt_eq (by simp; omega), List.getElem_append_left h]

/-- what is known of a guarded contract -/
theorem guarded {g : Bool} {x r : List AV × List Block} (h : (g, x) = (true, r)) : g = true ∧ x = r := by
  cases h; exact ⟨rfl, rfl⟩

theorem goF_le {E : Env} {call : CallF} {fn : AFunc} {nw : Nat} {n m : Nat} (hnm : n ≤ m) {k : List AItem} {st : St} {r : List AV × List Block} (hr : goF E call fn nw n k st = some r) : goF E call fn nw m k st = some r :=
  goF_mono (fun _ _ _ _ h => h) n m hnm k st r hr

end Go.Abs
