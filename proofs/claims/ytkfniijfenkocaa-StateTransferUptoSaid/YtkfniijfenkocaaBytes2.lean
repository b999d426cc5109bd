/-
  Signed numbers and texts as bytes: arithmetic of the zigzag encoding, in plain Lean.
-/
import Derived.Test.YtkfniijfenkocaaBytes
namespace Go.Proofs.Ytkfniijfenkocaa
open Go.Abs

def senc (s : List UInt8) : List (List Cell) := uenc s.length ++ ofBytes s

def okStr (x : List (List Cell)) (s : List UInt8) : Bool := decide (x.length ≤ 3000000) && decide (s.length ≤ 100000)

def okI (v : Int) : Bool := decide (-9223372036854775808 ≤ v) && decide (v ≤ 9223372036854775807)

def zig (v : Int) : Int := if 0 ≤ v then 2 * v else -2 * v - 1

def unzig (u : Int) : Int := if u % 2 = 0 then u / 2 else -(u / 2) - 1

def idec (x : List (List Cell)) : Int × Int × Int := if (udec x).2.2 ≠ 0 then (0, 0, (udec x).2.2) else (unzig (udec x).1, (udec x).2.1, 0)

def sdec (x : List (List Cell)) : List UInt8 × Int × Int :=
  if (udec x).2.2 ≠ 0 then ([], 0, (udec x).2.2)
  else if (x.length : Int) - (udec x).2.1 < (udec x).1 then ([], 0, 1)
  else (toBytes ((x.drop (udec x).2.1.toNat).take (udec x).1.toNat), (udec x).2.1 + (udec x).1, 0)

theorem xor_ones {a : Int} (h0 : 0 ≤ a) (h1 : a < 18446744073709551616) : xorI .u64 a 18446744073709551615 = 18446744073709551615 - a := by
  unfold xorI
  have hb : IntKind.u64.bits = 64 := rfl
  obtain ⟨n, rfl⟩ := Int.eq_ofNat_of_zero_le h0
  have e : BitVec.ofInt 64 18446744073709551615 = BitVec.allOnes 64 := by decide
  have hn : n < 2 ^ 64 := by omega
  rw [hb, e, BitVec.xor_allOnes, BitVec.ofInt_natCast, BitVec.toNat_not, BitVec.toNat_ofNat, Nat.mod_eq_of_lt hn, wrapu (by omega) (by omega)]
  omega

theorem xor_zero {a : Int} (h0 : 0 ≤ a) (h1 : a < 18446744073709551616) : xorI .u64 a 0 = a := by
  unfold xorI
  have hb : IntKind.u64.bits = 64 := rfl
  obtain ⟨n, rfl⟩ := Int.eq_ofNat_of_zero_le h0
  have e : BitVec.ofInt 64 0 = 0#64 := by decide
  have hn : n < 2 ^ 64 := by omega
  rw [hb, e, BitVec.xor_zero, BitVec.ofInt_natCast, BitVec.toNat_ofNat, Nat.mod_eq_of_lt hn, wrapu (by omega) (by omega)]

theorem xor_ones' {a : Int} (h0 : 0 ≤ a) (h1 : a < 9223372036854775808) : xorI .i64 a (-1) = -1 - a := by
  unfold xorI
  have hb : IntKind.i64.bits = 64 := rfl
  obtain ⟨n, rfl⟩ := Int.eq_ofNat_of_zero_le h0
  have e : BitVec.ofInt 64 (-1) = BitVec.allOnes 64 := by decide
  have hn : n < 2 ^ 64 := by omega
  rw [hb, e, BitVec.xor_allOnes, BitVec.ofInt_natCast, BitVec.toNat_not, BitVec.toNat_ofNat, Nat.mod_eq_of_lt hn, wrapi64_eq]
  have e2 : ((2 ^ 64 - 1 - n : Nat) : Int) = 18446744073709551615 - n := by omega
  rw [e2]
  split <;> omega

theorem xor_zero' {a : Int} (h0 : 0 ≤ a) (h1 : a < 9223372036854775808) : xorI .i64 a 0 = a := by
  unfold xorI
  have hb : IntKind.i64.bits = 64 := rfl
  obtain ⟨n, rfl⟩ := Int.eq_ofNat_of_zero_le h0
  have e : BitVec.ofInt 64 0 = 0#64 := by decide
  have hn : n < 2 ^ 64 := by omega
  rw [hb, e, BitVec.xor_zero, BitVec.ofInt_natCast, BitVec.toNat_ofNat, Nat.mod_eq_of_lt hn, wrap64 (by omega) (by omega)]

theorem and_one {u : Int} (h0 : 0 ≤ u) (h1 : u < 18446744073709551616) : andI .u64 u 1 = u % 2 := by
  unfold andI
  have hb : IntKind.u64.bits = 64 := rfl
  obtain ⟨n, rfl⟩ := Int.eq_ofNat_of_zero_le h0
  have hn : n < 2 ^ 64 := by omega
  have e : BitVec.ofInt 64 1 = 1#64 := by decide
  have e1 : (1#64).toNat = 1 := by decide
  rw [hb, e, BitVec.ofInt_natCast, BitVec.toNat_and, BitVec.toNat_ofNat, Nat.mod_eq_of_lt hn, e1, Nat.and_one_is_mod, wrapu (by omega) (by omega)]
  omega

theorem shr1 (u : Int) : shrI .u64 u 1 = u / 2 := by
  unfold shrI
  have e : (min (1 : Int).toNat IntKind.u64.bits) = 1 := by decide
  rw [e, Int.fdiv_eq_ediv_of_nonneg]
  · rfl
  · decide

theorem shr63 {v : Int} (h0 : -9223372036854775808 ≤ v) (h1 : v ≤ 9223372036854775807) : shrI .i64 v 63 = if 0 ≤ v then 0 else -1 := by
  unfold shrI
  have e : (min (63 : Int).toNat IntKind.i64.bits) = 63 := by decide
  have e2 : (2 : Int) ^ 63 = 9223372036854775808 := by decide
  rw [e, e2, Int.fdiv_eq_ediv_of_nonneg _ (by omega)]
  split <;> omega

theorem shl1 (v : Int) : shlI .u64 v 1 = IntKind.u64.wrap (v * 2) := by
  unfold shlI
  have e : (min (1 : Int).toNat IntKind.u64.bits) = 1 := by decide
  rw [e]
  rfl

theorem okI_of {v : Int} (h : okI v = true) : -9223372036854775808 ≤ v ∧ v ≤ 9223372036854775807 := by
  unfold okI at h
  simpa using h

theorem zig_range {v : Int} (h : okI v = true) : 0 ≤ zig v ∧ zig v < 18446744073709551616 := by
  have := okI_of h
  unfold zig
  split <;> omega

theorem zigxor {v : Int} (h : okI v = true) : xorI .u64 (shlI .u64 (IntKind.u64.wrap v) 1) (IntKind.u64.wrap (shrI .i64 v 63)) = zig v := by
  obtain ⟨h0, h1⟩ := okI_of h
  rw [shr63 h0 h1, shl1]
  unfold zig
  split
  · rw [wrapu (n := v) (by omega) (by omega), wrapu (n := 0) (by omega) (by omega), wrapu (by omega) (by omega), xor_zero (by omega) (by omega)]
    omega
  · have e1 : IntKind.u64.wrap v = v + 18446744073709551616 := by rw [wrapu64_eq]; omega
    have e2 : IntKind.u64.wrap ((v + 18446744073709551616) * 2) = 2 * v + 18446744073709551616 := by rw [wrapu64_eq]; omega
    have e3 : IntKind.u64.wrap (-1) = 18446744073709551615 := by rw [wrapu64_eq]; decide
    rw [e1, e2, e3, xor_ones (by omega) (by omega)]
    omega

theorem unzigxor {u : Int} (h0 : 0 ≤ u) (h1 : u < 18446744073709551616) :
    xorI .i64 (IntKind.i64.wrap (shrI .u64 u 1)) (IntKind.i64.wrap (0 - IntKind.i64.wrap (andI .u64 u 1))) = unzig u := by
  rw [shr1, and_one h0 h1, wrap64 (n := u / 2) (by omega) (by omega), wrap64 (n := u % 2) (by omega) (by omega), wrap64 (by omega) (by omega)]
  unfold unzig
  split
  · rw [show (0 - u % 2) = 0 by omega, xor_zero' (by omega) (by omega)]
  · rw [show (0 - u % 2) = -1 by omega, xor_ones' (by omega) (by omega)]
    omega

theorem unzig_zig (v : Int) : unzig (zig v) = v := by
  unfold unzig zig
  (repeat' split) <;> omega

theorem udecF_lt : ∀ (k i : Nat) (acc : Int) (l : List (List Cell)), i + k = 10 → 0 ≤ acc → acc < 128 ^ i → (∀ r ∈ l, 0 ≤ nr r 0 ∧ nr r 0 < 256) → (udecF k i acc l).2.2 = 0 → (udecF k i acc l).1 < 18446744073709551616
  | 0, _, _, _, _, _, _, _, h => by simp [udecF] at h
  | k + 1, _, _, [], _, _, _, _, h => by simp [udecF] at h
  | k + 1, i, acc, r :: rs, hi, h0, h1, hb, h => by
    have hr := hb r List.mem_cons_self
    unfold udecF at h ⊢
    split
    · rw [if_pos (by assumption)] at h; simp at h
    · rename_i hn
      rw [if_neg hn] at h
      split
      · rename_i hc
        rw [if_pos hc] at h
        split
        · rw [if_pos (by assumption)] at h; simp at h
        · rw [Int.toNat_natCast]
          exact (step64 h0 h1 hr.1 hc (by omega) (fun h9 => by omega)).2.2.2
      · rename_i hc
        rw [if_neg hc] at h
        rw [Int.toNat_natCast] at h ⊢
        have hi9 : i ≠ 9 ∨ nr r 0 ≤ 1 := by omega
        have hs := step64 (c := nr r 0 - 128) (i := i) h0 h1 (by omega) (by omega) (by omega) (fun h9 => by omega)
        exact udecF_lt k (i + 1) _ rs (by omega) hs.2.1 hs.2.2.1 (fun q hq => hb q (List.mem_cons_of_mem _ hq)) h

theorem udec_lt {x : List (List Cell)} (hx : okB x = true) (h : (udec x).2.2 = 0) : (udec x).1 < 18446744073709551616 :=
  udecF_lt 10 0 0 x (by omega) (by omega) (by simp) (fun r hr => ⟨(isByte_nr (List.all_eq_true.1 hx r hr)).1, (isByte_nr (List.all_eq_true.1 hx r hr)).2.1⟩) h

theorem toBytes_ofBytes : ∀ s : List UInt8, toBytes (ofBytes s) = s
  | [] => rfl
  | b :: s => by
    rw [ofBytes, toBytes, toBytes_ofBytes s]
    congr 1
    simp [rowByte, byteRow, cellAt, Cell.toInt]

theorem ofBytes_len : ∀ s : List UInt8, (ofBytes s).length = s.length
  | [] => rfl
  | b :: s => by rw [ofBytes, List.length_cons, ofBytes_len s, List.length_cons]

theorem ofBytes_okB : ∀ s : List UInt8, okB (ofBytes s) = true
  | [] => rfl
  | b :: s => by
    have := ofBytes_okB s
    unfold okB at this ⊢
    rw [ofBytes, List.all_cons, this, Bool.and_true]
    have := UInt8.toNat_lt b
    simp [isByte, byteRow]
    omega

theorem senc_len (s : List UInt8) : (senc s).length ≤ 10 + s.length := by
  have := uenc_len (s.length : Int)
  unfold senc
  rw [List.length_append, ofBytes_len]
  omega

theorem senc_okB (s : List UInt8) : okB (senc s) = true := okB_app (uencF_okB 10 _ (by omega)) (ofBytes_okB s)

theorem sdec_senc {s : List UInt8} (hs : s.length < 18446744073709551616) (rest : List (List Cell)) : sdec (senc s ++ rest) = (s, ((senc s).length : Int), 0) := by
  have e : senc s ++ rest = uenc s.length ++ (ofBytes s ++ rest) := by unfold senc; rw [List.append_assoc]
  have h := udec_uenc (v := (s.length : Int)) (by omega) (by omega) (ofBytes s ++ rest)
  unfold sdec
  rw [e, h, if_neg (by simp), if_neg]
  · simp only [Int.toNat_natCast, List.drop_left]
    rw [List.take_append_of_le_length (by rw [ofBytes_len]; omega), List.take_of_length_le (by rw [ofBytes_len]; omega), toBytes_ofBytes]
    simp only [senc, List.length_append, ofBytes_len, Prod.mk.injEq, true_and, and_true]
    omega
  · simp only [List.length_append, ofBytes_len]
    omega

theorem sdec_cut {s : List UInt8} (hs : s.length < 18446744073709551616) {n : Nat} (hn : n < (senc s).length) : sdec ((senc s).take n) = ([], 0, 1) := by
  unfold senc at hn ⊢
  rw [List.length_append, ofBytes_len] at hn
  unfold sdec
  by_cases hc : n < (uenc (s.length : Int)).length
  · rw [List.take_append_of_le_length (by omega), udec_cut (by omega) (by omega) hc, if_pos (by simp)]
  · rw [List.take_append, List.take_of_length_le (by omega)]
    have h := udec_uenc (v := (s.length : Int)) (by omega) (by omega) ((ofBytes s).take (n - (uenc (s.length : Int)).length))
    rw [h, if_neg (by simp), if_pos]
    simp only [List.length_append, List.length_take, ofBytes_len]
    omega

theorem idec_enc {v : Int} (h : okI v = true) (rest : List (List Cell)) : idec (uenc (zig v) ++ rest) = (v, ((uenc (zig v)).length : Int), 0) := by
  have hz := zig_range h
  unfold idec
  rw [udec_uenc hz.1 hz.2 rest, if_neg (by simp), unzig_zig]

theorem idec_cut {v : Int} (h : okI v = true) {n : Nat} (hn : n < (uenc (zig v)).length) : idec ((uenc (zig v)).take n) = (0, 0, 1) := by
  have hz := zig_range h
  unfold idec
  rw [udec_cut hz.1 hz.2 hn, if_pos (by simp)]

end Go.Proofs.Ytkfniijfenkocaa
