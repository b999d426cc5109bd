/-
  Numbers as bytes: the arithmetic of the encoding of base 128, in plain Lean.
-/
import Derived.Test.YtpafnokcmhlbgaaDefsW
namespace Go.Proofs.Ytpafnokcmhlbgaa
open Go.Abs

theorem or8 {a : Int} (h0 : 0 ≤ a) (h : a < 256) : orI .u8 a 128 = a % 128 + 128 := by
  have : ∀ n : Fin 256, orI .u8 ((n.val : Nat) : Int) 128 = ((n.val : Nat) : Int) % 128 + 128 := by decide +kernel
  have e := this ⟨a.toNat, by omega⟩
  simp only [Int.toNat_of_nonneg h0] at e
  exact e

theorem andNot8 {a : Int} (h0 : 0 ≤ a) (h : a < 256) : andNotI .u8 a 128 = a % 128 := by
  have : ∀ n : Fin 256, andNotI .u8 ((n.val : Nat) : Int) 128 = ((n.val : Nat) : Int) % 128 := by decide +kernel
  have e := this ⟨a.toNat, by omega⟩
  simp only [Int.toNat_of_nonneg h0] at e
  exact e

theorem shr7 (v : Int) : shrI .u64 v 7 = v / 128 := by
  unfold shrI
  have e : (min (7 : Int).toNat IntKind.u64.bits) = 7 := by decide
  rw [e, Int.fdiv_eq_ediv_of_nonneg]
  · rfl
  · decide

theorem pow128 (i : Nat) : (128 : Int) ^ i = ((2 ^ (7 * i) : Nat) : Int) := by
  rw [Nat.pow_mul]
  simp

theorem or64 {a : Nat} {c k : Nat} (ha : a < 2 ^ k) (h : a + c * 2 ^ k < 18446744073709551616) : orI .u64 (a : Int) ((c * 2 ^ k : Nat) : Int) = ((a + c * 2 ^ k : Nat) : Int) := by
  unfold orI
  have hb : IntKind.u64.bits = 64 := rfl
  rw [hb, BitVec.ofInt_natCast, BitVec.ofInt_natCast, BitVec.toNat_or, BitVec.toNat_ofNat, BitVec.toNat_ofNat]
  have h2 : (2 : Nat) ^ 64 = 18446744073709551616 := by decide
  rw [h2, Nat.mod_eq_of_lt (by omega), Nat.mod_eq_of_lt (by omega)]
  have : a ||| c * 2 ^ k = a + c * 2 ^ k := by
    have := Nat.two_pow_add_eq_or_of_lt ha c
    rw [Nat.or_comm, Nat.mul_comm c, ← this]
    omega
  rw [this, wrapu (by omega) (by omega)]

theorem shl64 {c k : Nat} (hk : k ≤ 64) (h : c * 2 ^ k < 18446744073709551616) : shlI .u64 (c : Int) (k : Int) = ((c * 2 ^ k : Nat) : Int) := by
  unfold shlI
  have hb : IntKind.u64.bits = 64 := rfl
  rw [hb, Int.toNat_natCast, Nat.min_eq_left hk]
  have : (c : Int) * 2 ^ k = ((c * 2 ^ k : Nat) : Int) := by simp
  rw [this, wrapu (by omega) (by omega)]

/-- one byte more of the number -/
theorem step64 {acc c : Int} {i : Nat} (h0 : 0 ≤ acc) (h1 : acc < 128 ^ i) (hc0 : 0 ≤ c) (hc1 : c < 128) (hi : i ≤ 9) (h9 : i = 9 → c ≤ 1) :
    orI .u64 acc (shlI .u64 c ((7 * i : Nat) : Int)) = acc + c * 128 ^ i ∧ 0 ≤ acc + c * 128 ^ i ∧ acc + c * 128 ^ i < 128 ^ (i + 1) ∧ acc + c * 128 ^ i < 18446744073709551616 := by
  obtain ⟨a, rfl⟩ := Int.eq_ofNat_of_zero_le h0
  obtain ⟨d, rfl⟩ := Int.eq_ofNat_of_zero_le hc0
  rw [pow128] at h1 ⊢
  have ha : a < 2 ^ (7 * i) := by exact_mod_cast h1
  have hlim : a + d * 2 ^ (7 * i) < 18446744073709551616 := by
    have hd : d < 128 := by omega
    have hcase : i = 0 ∨ i = 1 ∨ i = 2 ∨ i = 3 ∨ i = 4 ∨ i = 5 ∨ i = 6 ∨ i = 7 ∨ i = 8 ∨ i = 9 := by omega
    rcases hcase with rfl | rfl | rfl | rfl | rfl | rfl | rfl | rfl | rfl | rfl
    · have e : (2 : Nat) ^ (7 * 0) = 1 := by decide
      rw [e] at ha ⊢
      omega
    · have e : (2 : Nat) ^ (7 * 1) = 128 := by decide
      rw [e] at ha ⊢
      omega
    · have e : (2 : Nat) ^ (7 * 2) = 16384 := by decide
      rw [e] at ha ⊢
      omega
    · have e : (2 : Nat) ^ (7 * 3) = 2097152 := by decide
      rw [e] at ha ⊢
      omega
    · have e : (2 : Nat) ^ (7 * 4) = 268435456 := by decide
      rw [e] at ha ⊢
      omega
    · have e : (2 : Nat) ^ (7 * 5) = 34359738368 := by decide
      rw [e] at ha ⊢
      omega
    · have e : (2 : Nat) ^ (7 * 6) = 4398046511104 := by decide
      rw [e] at ha ⊢
      omega
    · have e : (2 : Nat) ^ (7 * 7) = 562949953421312 := by decide
      rw [e] at ha ⊢
      omega
    · have e : (2 : Nat) ^ (7 * 8) = 72057594037927936 := by decide
      rw [e] at ha ⊢
      omega
    · have e : (2 : Nat) ^ (7 * 9) = 9223372036854775808 := by decide
      rw [e] at ha ⊢
      have := h9 rfl
      omega
  have e : ((a : Nat) : Int) + ((d : Nat) : Int) * ((2 ^ (7 * i) : Nat) : Int) = ((a + d * 2 ^ (7 * i) : Nat) : Int) := by simp
  rw [e, shl64 (by omega) (by omega), or64 ha hlim, pow128]
  refine ⟨rfl, by omega, ?_, by omega⟩
  have : (2 : Nat) ^ (7 * (i + 1)) = 128 * 2 ^ (7 * i) := by rw [Nat.mul_add, Nat.pow_add, Nat.mul_comm]
  rw [this]
  have hd : d < 128 := by omega
  have : d * 2 ^ (7 * i) ≤ 127 * 2 ^ (7 * i) := Nat.mul_le_mul_right _ (by omega)
  have : a + d * 2 ^ (7 * i) < 128 * 2 ^ (7 * i) := by omega
  exact_mod_cast this

theorem isByte_nr {r : List Cell} (h : isByte r = true) : 0 ≤ nr r 0 ∧ nr r 0 < 256 ∧ r = [.int .u8 (nr r 0)] := by
  unfold isByte at h
  split at h
  · simp only [Bool.and_eq_true, decide_eq_true_eq] at h
    exact ⟨h.1, h.2, rfl⟩
  · cases h

theorem okB_at {x : List (List Cell)} (h : okB x = true) {i : Nat} (hi : i < x.length) : 0 ≤ nr (Abs.rowAt x i) 0 ∧ nr (Abs.rowAt x i) 0 < 256 := by
  unfold okB at h
  have := List.all_eq_true.1 h _ (List.getElem_mem hi)
  rw [rowAt_eq hi]
  exact ⟨(isByte_nr this).1, (isByte_nr this).2.1⟩

theorem okB_drop {x : List (List Cell)} (h : okB x = true) (n : Nat) : okB (x.drop n) = true := by
  unfold okB at h ⊢
  rw [List.all_eq_true] at h ⊢
  exact fun r hr => h r (List.mem_of_mem_drop hr)

theorem okB_app {x y : List (List Cell)} (hx : okB x = true) (hy : okB y = true) : okB (x ++ y) = true := by
  unfold okB at hx hy ⊢
  rw [List.all_append, hx, hy]; rfl

theorem okB_take {x : List (List Cell)} (h : okB x = true) (n : Nat) : okB (x.take n) = true := by
  unfold okB at h ⊢
  rw [List.all_eq_true] at h ⊢
  exact fun r hr => h r (List.mem_of_mem_take hr)

theorem uencF_len : ∀ (k : Nat) (v : Int), (uencF k v).length ≤ k
  | 0, _ => by simp [uencF]
  | k + 1, v => by
    unfold uencF
    split
    · simp
    · simp [uencF_len k]

theorem uenc_len (v : Int) : (uenc v).length ≤ 10 := uencF_len 10 v

theorem uencF_okB : ∀ (k : Nat) (v : Int), 0 ≤ v → okB (uencF k v) = true
  | 0, _, _ => rfl
  | k + 1, v, h => by
    unfold uencF
    split
    · simp [okB, isByte]; omega
    · have := uencF_okB k (v / 128) (by omega)
      unfold okB at this ⊢
      rw [List.all_cons, this, Bool.and_true]
      simp [isByte]; omega

/-- what follows doesn't matter: the number comes back -/
theorem udecF_uencF (rest : List (List Cell)) : ∀ (k : Nat) (i acc v : Int), k ≤ 10 → i + k = 10 → 0 ≤ i → 0 ≤ v → v * 128 ^ i.toNat < 18446744073709551616 → (v = 0 → i = 0) →
    udecF k i acc (uencF k v ++ rest) = (acc + v * 128 ^ i.toNat, i + (uencF k v).length, 0) := by
  intro k
  induction k with
  | zero =>
    intro i acc v _ hi h0 hv hlt hz
    have : i = 10 := by omega
    subst this
    have : v = 0 := by
      have e : (128 : Int) ^ (10 : Int).toNat = 1180591620717411303424 := by decide
      rw [e] at hlt
      omega
    have := hz this
    omega
  | succ k ih =>
    intro i acc v hk hi h0 hv hlt hz
    unfold uencF
    by_cases hs : v < 128
    · rw [if_pos hs]
      simp only [List.cons_append, List.nil_append, udecF]
      have e : nr [Cell.int .u8 v] 0 = v := rfl
      rw [e, if_neg, if_pos hs, if_neg]
      · simp
      · rintro ⟨h1, h2⟩
        have := hz h1
        omega
      · rintro ⟨h1, h2⟩
        have h9 : i = 9 := by omega
        subst h9
        have e : (128 : Int) ^ (9 : Int).toNat = 9223372036854775808 := by decide
        rw [e] at hlt
        omega
    · rw [if_neg hs]
      simp only [List.cons_append, udecF]
      have e : nr [Cell.int .u8 (v % 128 + 128)] 0 = v % 128 + 128 := rfl
      have e1 : (i + 1).toNat = i.toNat + 1 := by omega
      have e2 : (128 : Int) ^ (i.toNat + 1) = 128 ^ i.toNat * 128 := Int.pow_succ _ _
      have hp : (0 : Int) < 128 ^ i.toNat := Int.pow_pos (by decide)
      have hdiv : v / 128 * 128 ≤ v := by omega
      have e3 : v / 128 * 128 ^ (i + 1).toNat = (v / 128 * 128) * 128 ^ i.toNat := by
        rw [e1, e2, Int.mul_comm (128 ^ i.toNat) 128, Int.mul_assoc]
      have hle : (v / 128 * 128) * 128 ^ i.toNat ≤ v * 128 ^ i.toNat := Int.mul_le_mul_of_nonneg_right hdiv (by omega)
      rw [e, if_neg, if_neg (by omega), ih (i + 1) _ (v / 128) (by omega) (by omega) (by omega) (by omega) (by rw [e3]; omega) (by omega)]
      · rw [e3]
        have e4 : acc + (v % 128 + 128 - 128) * 128 ^ i.toNat + v / 128 * 128 * 128 ^ i.toNat = acc + v * 128 ^ i.toNat := by
          rw [Int.add_assoc, ← Int.add_mul]
          congr 2
          omega
        rw [e4]
        simp only [List.length_cons, Prod.mk.injEq, true_and, and_true]
        omega
      · rintro ⟨h1, h2⟩
        have h9 : i = 9 := by omega
        subst h9
        have e : (128 : Int) ^ (9 : Int).toNat = 9223372036854775808 := by decide
        rw [e] at hlt
        omega

theorem udec_uenc {v : Int} (h0 : 0 ≤ v) (h : v < 18446744073709551616) (rest : List (List Cell)) : udec (uenc v ++ rest) = (v, ((uenc v).length : Int), 0) := by
  have := udecF_uencF rest 10 0 0 v (by omega) (by omega) (by omega) h0 (by simpa using h) (fun _ => rfl)
  unfold udec uenc
  rw [this]
  simp

/-- a cut within gives 'truncated' -/
theorem udecF_cut : ∀ (k : Nat) (i acc v : Int) (n : Nat), i + k = 10 → 0 ≤ v → v * 128 ^ i.toNat < 18446744073709551616 → n < (uencF k v).length → udecF k i acc ((uencF k v).take n) = (0, 0, 1) := by
  intro k
  induction k with
  | zero => intro i acc v n _ _ _ hn; simp [uencF] at hn
  | succ k ih =>
    intro i acc v n hi hv hlt hn
    unfold uencF at hn ⊢
    by_cases hs : v < 128
    · rw [if_pos hs] at hn ⊢
      have : n = 0 := by simpa using hn
      subst this
      rfl
    · rw [if_neg hs] at hn ⊢
      cases n with
      | zero => rfl
      | succ n =>
        rw [List.take_succ_cons]
        simp only [udecF]
        have e : nr [Cell.int .u8 (v % 128 + 128)] 0 = v % 128 + 128 := rfl
        by_cases h0 : 0 ≤ i
        · have e1 : (i + 1).toNat = i.toNat + 1 := by omega
          have e2 : (128 : Int) ^ (i.toNat + 1) = 128 ^ i.toNat * 128 := Int.pow_succ _ _
          have hp : (0 : Int) < 128 ^ i.toNat := Int.pow_pos (by decide)
          have hdiv : v / 128 * 128 ≤ v := by omega
          have e3 : v / 128 * 128 ^ (i + 1).toNat = (v / 128 * 128) * 128 ^ i.toNat := by
            rw [e1, e2, Int.mul_comm (128 ^ i.toNat) 128, Int.mul_assoc]
          have hle : (v / 128 * 128) * 128 ^ i.toNat ≤ v * 128 ^ i.toNat := Int.mul_le_mul_of_nonneg_right hdiv (by omega)
          rw [e, if_neg, if_neg (by omega)]
          · exact ih (i + 1) _ (v / 128) n (by omega) (by omega) (by rw [e3]; omega) (by simpa using hn)
          · rintro ⟨h1, h2⟩
            have h9 : i = 9 := by omega
            subst h9
            have e : (128 : Int) ^ (9 : Int).toNat = 9223372036854775808 := by decide
            rw [e] at hlt
            omega
        · have e1 : i.toNat = 0 := by omega
          have e2 : (i + 1).toNat = 0 := by omega
          rw [e1] at hlt
          rw [e, if_neg (by omega), if_neg (by omega)]
          exact ih (i + 1) _ (v / 128) n (by omega) (by omega) (by rw [e2]; simp at hlt ⊢; omega) (by simpa using hn)

theorem udec_cut {v : Int} (h0 : 0 ≤ v) (h : v < 18446744073709551616) {n : Nat} (hn : n < (uenc v).length) : udec ((uenc v).take n) = (0, 0, 1) :=
  udecF_cut 10 0 0 v n (by omega) h0 (by simpa using h) hn

end Go.Proofs.Ytpafnokcmhlbgaa
