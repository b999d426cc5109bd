/-
  Plain law: a checksum finds a byte that was changed.
-/
import Derived.Test.YtpafnokcmhlbgaaW11
namespace Go.Proofs.Ytpafnokcmhlbgaa
open Go.Abs

theorem wrap32 {n : Int} (h0 : 0 ≤ n) (h : n < 4294967296) : IntKind.wrap .u32 n = n := by
  have h1 : (2 : Int) ^ IntKind.u32.bits = 4294967296 := by decide
  have e : IntKind.u32.wrap n = if (IntKind.u32.signed && decide (n % 2 ^ IntKind.u32.bits ≥ 2 ^ (IntKind.u32.bits - 1))) = true then n % 2 ^ IntKind.u32.bits - 2 ^ IntKind.u32.bits else n % 2 ^ IntKind.u32.bits := rfl
  rw [e, h1]
  simp [IntKind.signed]
  omega
theorem xor_eq (a b : Int) : xorI .u32 a b = ((BitVec.ofInt 32 a ^^^ BitVec.ofInt 32 b).toNat : Int) := by
  have hlt := (BitVec.ofInt 32 a ^^^ BitVec.ofInt 32 b).isLt
  unfold xorI
  exact wrap32 (Int.natCast_nonneg _) (Int.ofNat_lt.mpr hlt)
theorem ofInt_inj {a b : Int} (h0 : 0 ≤ a) (h1 : a < 4294967296) (h2 : 0 ≤ b) (h3 : b < 4294967296) (h : BitVec.ofInt 32 a = BitVec.ofInt 32 b) : a = b := by
  obtain ⟨n, rfl⟩ := Int.eq_ofNat_of_zero_le h0
  obtain ⟨m, rfl⟩ := Int.eq_ofNat_of_zero_le h2
  have hn : n < 2 ^ 32 := by omega
  have hm : m < 2 ^ 32 := by omega
  have e := congrArg BitVec.toNat h
  rw [BitVec.ofInt_natCast, BitVec.ofInt_natCast, BitVec.toNat_ofNat, BitVec.toNat_ofNat, Nat.mod_eq_of_lt hn, Nat.mod_eq_of_lt hm] at e
  rw [e]
theorem bv_cancel {n : Nat} {x y c : BitVec n} (h : x ^^^ c = y ^^^ c) : x = y := by
  have e := congrArg (· ^^^ c) h
  simpa [BitVec.xor_assoc] using e
theorem xor_inj {a b c : Int} (h0 : 0 ≤ a) (h1 : a < 4294967296) (h2 : 0 ≤ b) (h3 : b < 4294967296) (h : xorI .u32 a c = xorI .u32 b c) : a = b := by
  rw [xor_eq, xor_eq] at h
  have e : (BitVec.ofInt 32 a ^^^ BitVec.ofInt 32 c).toNat = (BitVec.ofInt 32 b ^^^ BitVec.ofInt 32 c).toNat := Int.ofNat.inj h
  exact ofInt_inj h0 h1 h2 h3 (bv_cancel (BitVec.eq_of_toNat_eq e))
theorem xor_comm32 (a b : Int) : xorI .u32 a b = xorI .u32 b a := by rw [xor_eq, xor_eq, BitVec.xor_comm]
theorem xor_inj' {a b c : Int} (h0 : 0 ≤ a) (h1 : a < 4294967296) (h2 : 0 ≤ b) (h3 : b < 4294967296) (h : xorI .u32 c a = xorI .u32 c b) : a = b := by
  rw [xor_comm32 c a, xor_comm32 c b] at h
  exact xor_inj h0 h1 h2 h3 h
theorem xor_top {a : Int} (h0 : 0 ≤ a) (h1 : a < 2147483648) : 2147483648 ≤ xorI .u32 a 2197175160 := by
  rw [xor_eq]
  obtain ⟨n, rfl⟩ := Int.eq_ofNat_of_zero_le h0
  have hm : (BitVec.ofInt 32 (n : Int) ^^^ BitVec.ofInt 32 2197175160).msb = true := by
    have e1 : (BitVec.ofInt 32 (n : Int)).msb = false := by
      rw [BitVec.msb_eq_decide, BitVec.ofInt_natCast, BitVec.toNat_ofNat, Nat.mod_eq_of_lt (by omega)]
      exact decide_eq_false (by omega)
    have e2 : (BitVec.ofInt 32 2197175160).msb = true := by decide
    rw [BitVec.msb_xor, e1, e2]; rfl
  rw [BitVec.msb_eq_decide] at hm
  have := of_decide_eq_true hm
  omega
theorem and_one32 {u : Int} (h0 : 0 ≤ u) (h1 : u < 4294967296) : andI .u32 u 1 = u % 2 := by
  unfold andI
  have hb : IntKind.u32.bits = 32 := rfl
  obtain ⟨n, rfl⟩ := Int.eq_ofNat_of_zero_le h0
  have hn : n < 2 ^ 32 := by omega
  have e : BitVec.ofInt 32 1 = 1#32 := by decide
  have e1 : (1#32).toNat = 1 := by decide
  rw [hb, e, BitVec.ofInt_natCast, BitVec.toNat_and, BitVec.toNat_ofNat, Nat.mod_eq_of_lt hn, e1, Nat.and_one_is_mod, wrap32 (by omega) (by omega)]
  omega
theorem shr1_32 (u : Int) : shrI .u32 u 1 = u / 2 := by
  unfold shrI
  have e : (min (1 : Int).toNat IntKind.u32.bits) = 1 := by decide
  rw [e, Int.fdiv_eq_ediv_of_nonneg]
  · rfl
  · decide

theorem crcBit_eq {c : Int} (h0 : 0 ≤ c) (h1 : c < 4294967296) : crcBit c = if c % 2 = 0 then c / 2 else xorI .u32 (c / 2) 2197175160 := by
  unfold crcBit
  rw [and_one32 h0 h1, shr1_32]
  by_cases h : c % 2 = 0
  · rw [if_pos h, h]; rfl
  · rw [if_neg h, show c % 2 = 1 by omega]; rfl
theorem crcBit_range {c : Int} (h0 : 0 ≤ c) (h1 : c < 4294967296) : 0 ≤ crcBit c ∧ crcBit c < 4294967296 := by
  rw [crcBit_eq h0 h1]
  split
  · omega
  · exact xor_u32 _ _
theorem crcBit_inj {a b : Int} (h0 : 0 ≤ a) (h1 : a < 4294967296) (h2 : 0 ≤ b) (h3 : b < 4294967296) (h : crcBit a = crcBit b) : a = b := by
  rw [crcBit_eq h0 h1, crcBit_eq h2 h3] at h
  have ta := xor_top (a := a / 2) (by omega) (by omega)
  have tb := xor_top (a := b / 2) (by omega) (by omega)
  split at h <;> split at h
  · omega
  · omega
  · omega
  · have := xor_inj (by omega) (by omega) (by omega) (by omega) h
    omega
theorem crcBits_range : ∀ (k : Nat) {c : Int}, 0 ≤ c → c < 4294967296 → 0 ≤ crcBits k c ∧ crcBits k c < 4294967296
  | 0, _, h0, h1 => ⟨h0, h1⟩
  | k + 1, _, h0, h1 => crcBits_range k (crcBit_range h0 h1).1 (crcBit_range h0 h1).2
theorem crcBits_inj : ∀ (k : Nat) {a b : Int}, 0 ≤ a → a < 4294967296 → 0 ≤ b → b < 4294967296 → crcBits k a = crcBits k b → a = b
  | 0, _, _, _, _, _, _, h => h
  | k + 1, _, _, h0, h1, h2, h3, h => crcBit_inj h0 h1 h2 h3 (crcBits_inj k (crcBit_range h0 h1).1 (crcBit_range h0 h1).2 (crcBit_range h2 h3).1 (crcBit_range h2 h3).2 h)
theorem crcF_range : ∀ (x : List (List Cell)) {c : Int}, 0 ≤ c → c < 4294967296 → 0 ≤ crcF c x ∧ crcF c x < 4294967296
  | [], _, h0, h1 => ⟨h0, h1⟩
  | r :: x, _, _, _ => crcF_range x (crcBits_range 8 (xor_u32 _ _).1 (xor_u32 _ _).2).1 (crcBits_range 8 (xor_u32 _ _).1 (xor_u32 _ _).2).2
theorem crcF_inj : ∀ (x : List (List Cell)) {a b : Int}, 0 ≤ a → a < 4294967296 → 0 ≤ b → b < 4294967296 → crcF a x = crcF b x → a = b
  | [], _, _, _, _, _, _, h => h
  | r :: x, _, _, h0, h1, h2, h3, h => by
    have i := crcF_inj x (crcBits_range 8 (xor_u32 _ _).1 (xor_u32 _ _).2).1 (crcBits_range 8 (xor_u32 _ _).1 (xor_u32 _ _).2).2 (crcBits_range 8 (xor_u32 _ _).1 (xor_u32 _ _).2).1 (crcBits_range 8 (xor_u32 _ _).1 (xor_u32 _ _).2).2 h
    exact xor_inj h0 h1 h2 h3 (crcBits_inj 8 (xor_u32 _ _).1 (xor_u32 _ _).2 (xor_u32 _ _).1 (xor_u32 _ _).2 i)
theorem crcF_app (x y : List (List Cell)) : ∀ c, crcF c (x ++ y) = crcF (crcF c x) y := by
  induction x with
  | nil => intro c; rfl
  | cons r x ih => intro c; simp only [List.cons_append, crcF, ih]
theorem crcS_one {p q : List (List Cell)} {a b : List Cell} (ha : 0 ≤ nr a 0 ∧ nr a 0 < 256) (hb : 0 ≤ nr b 0 ∧ nr b 0 < 256) (h : crcS (p ++ (a :: q)) = crcS (p ++ (b :: q))) : nr a 0 = nr b 0 := by
  unfold crcS at h
  have m : (0 : Int) ≤ 4294967295 ∧ (4294967295 : Int) < 4294967296 := by omega
  have i := xor_inj' (crcF_range _ m.1 m.2).1 (crcF_range _ m.1 m.2).2 (crcF_range _ m.1 m.2).1 (crcF_range _ m.1 m.2).2 h
  rw [crcF_app, crcF_app] at i
  simp only [crcF] at i
  have j := crcF_inj q (crcBits_range 8 (xor_u32 _ _).1 (xor_u32 _ _).2).1 (crcBits_range 8 (xor_u32 _ _).1 (xor_u32 _ _).2).2 (crcBits_range 8 (xor_u32 _ _).1 (xor_u32 _ _).2).1 (crcBits_range 8 (xor_u32 _ _).1 (xor_u32 _ _).2).2 i
  have k := crcBits_inj 8 (xor_u32 _ _).1 (xor_u32 _ _).2 (xor_u32 _ _).1 (xor_u32 _ _).2 j
  rw [wrap32 ha.1 (by omega), wrap32 hb.1 (by omega)] at k
  exact xor_inj' ha.1 (by omega) hb.1 (by omega) k

theorem numF_acc (q : List (List Cell)) : ∀ (a : Int), numF a q = a * 256 ^ q.length + numF 0 q := by
  induction q with
  | nil => intro a; simp [numF]
  | cons r q ih =>
    intro a
    have e : (256 : Int) ^ (q.length + 1) = 256 ^ q.length * 256 := Int.pow_succ _ _
    rw [numF, numF, ih (a * 256 + nr r 0), ih (0 * 256 + nr r 0), List.length_cons, e, Int.add_mul, Int.add_mul, Int.mul_assoc, Int.mul_comm 256 (256 ^ q.length)]
    simp only [Int.zero_mul, Int.zero_add]
    omega
theorem numF_one {p q : List (List Cell)} {a b : List Cell} (h : numF 0 (p ++ (a :: q)) = numF 0 (p ++ (b :: q))) : nr a 0 = nr b 0 := by
  rw [numF_app, numF_app] at h
  simp only [numF] at h
  rw [numF_acc q (numF 0 p * 256 + nr a 0), numF_acc q (numF 0 p * 256 + nr b 0)] at h
  have hp : (0 : Int) < 256 ^ q.length := Int.pow_pos (by decide)
  have h2 : (numF 0 p * 256 + nr a 0) * 256 ^ q.length = (numF 0 p * 256 + nr b 0) * 256 ^ q.length := by omega
  have := Int.eq_of_mul_eq_mul_right (Int.ne_of_gt hp) h2
  omega

/-- a record whose parts are given -/
theorem recB_raw {g o : Int} {x t rest : List (List Cell)} {e : List Cell} (h1 : 1 ≤ x.length) (h2 : x.length ≤ 30000) (ht : t.length = 4) :
    recB g o ([.int .u8 229] :: (bigF 4 x.length ++ (x ++ (t ++ (e :: rest))))) = (x, decide (numF 0 t = wSum g o x) && decide (nr e 0 = 255)) := by
  have b1 := bigF_len 4 (x.length : Int)
  generalize hb : ([Cell.int .u8 229] :: (bigF 4 x.length ++ (x ++ (t ++ (e :: rest))))) = b
  have hl : b.length = x.length + 10 + rest.length := by
    rw [← hb]
    simp only [List.length_cons, List.length_append, b1, ht]; omega
  have e1 : wNum b 1 5 = x.length := by
    unfold wNum
    have := sub_at [[Cell.int .u8 229]] (bigF 4 x.length) (x ++ (t ++ (e :: rest))) (i := 1) (j := 5) rfl (by rw [b1]; rfl)
    rw [List.singleton_append, hb] at this
    rw [this, numF_big 4 0 _ (by omega) (by rw [show (256 : Int) ^ 4 = 4294967296 by decide]; omega)]
    omega
  have e2 : subL b 5 (5 + x.length) = x := by
    have := sub_at ([Cell.int .u8 229] :: bigF 4 x.length) x (t ++ (e :: rest)) (i := 5) (j := 5 + x.length) (by rw [List.length_cons, b1]) (by rw [List.length_cons, b1])
    rwa [List.cons_append, hb] at this
  have e3 : wNum b (5 + x.length) (9 + x.length) = numF 0 t := by
    unfold wNum
    have := sub_at ([Cell.int .u8 229] :: (bigF 4 x.length ++ x)) t (e :: rest) (i := 5 + x.length) (j := 9 + x.length) (by rw [List.length_cons, List.length_append, b1]; omega) (by rw [List.length_cons, List.length_append, b1, ht]; omega)
    rw [List.cons_append, List.append_assoc, hb] at this
    rw [this]
  have e4 : Abs.rowAt b (9 + x.length) = e := by
    have hd := drop_cons b (9 + x.length) (by omega)
    have e5 : b = ([Cell.int .u8 229] :: (bigF 4 x.length ++ (x ++ t))) ++ (e :: rest) := by rw [← hb]; simp
    have e6 : b.drop (9 + x.length) = e :: rest := by
      rw [e5, List.drop_append, List.drop_eq_nil_of_le (by simp [b1, ht]; omega), List.nil_append]
      have : 9 + x.length - ([Cell.int .u8 229] :: (bigF 4 x.length ++ (x ++ t))).length = 0 := by simp [b1, ht]; omega
      rw [this]; rfl
    rw [hd] at e6
    exact (List.cons.inj e6).1
  have e7 : nr (Abs.rowAt b 0) 0 = 229 := by rw [← hb]; rfl
  unfold recB
  rw [if_neg (by rw [e7]; omega), e1, if_neg (by omega), Int.toNat_natCast, e2, e3, e4]

theorem split_at {x : List (List Cell)} {i : Nat} (h : i < x.length) : x = x.take i ++ (Abs.rowAt x i :: x.drop (i + 1)) := by
  rw [← drop_cons x i h, List.take_append_drop]
theorem over_one {x : List (List Cell)} {i : Nat} (c : List Cell) : overL x i [c] = x.take i ++ (c :: x.drop (i + 1)) := by
  rw [overL_eq]; rfl
theorem row_app_left {a b : List (List Cell)} {i : Nat} (h : i < a.length) : Abs.rowAt (a ++ b) i = Abs.rowAt a i := by
  have h1 := drop_cons (a ++ b) i (by rw [List.length_append]; omega)
  rw [List.drop_append_of_le_length (by omega), drop_cons a i h] at h1
  exact (List.cons.inj h1).1.symm
theorem row_app_right {a b : List (List Cell)} {i : Nat} (h : a.length ≤ i) (hi : i < a.length + b.length) : Abs.rowAt (a ++ b) i = Abs.rowAt b (i - a.length) := by
  have h1 := drop_cons (a ++ b) i (by rw [List.length_append]; omega)
  rw [List.drop_append, List.drop_eq_nil_of_le h, List.nil_append, drop_cons b (i - a.length) (by omega)] at h1
  exact (List.cons.inj h1).1.symm
theorem over_app_left {a b y : List (List Cell)} {i : Nat} (h : i + y.length ≤ a.length) : overL (a ++ b) i y = overL a i y ++ b := by
  rw [overL_eq, overL_eq, List.take_append_of_le_length (by omega), List.drop_append_of_le_length (by omega)]
  simp
theorem over_app_right {a b y : List (List Cell)} {i : Nat} (h : a.length ≤ i) : overL (a ++ b) i y = a ++ overL b (i - a.length) y := by
  rw [overL_eq, overL_eq, List.take_append, List.take_of_length_le h, List.drop_append, List.drop_eq_nil_of_le (by omega), List.nil_append, List.append_assoc]
  congr 4
  omega

/-- a record with one byte of it changed is none -/
theorem recB_bad {g o : Int} {x rest : List (List Cell)} (hx : okB x = true) (h1 : 1 ≤ x.length) (h2 : x.length ≤ 30000) {i : Nat} (hi : i = 0 ∨ 5 ≤ i) (hl : i < x.length + 10) {v : Int} (hv : 0 ≤ v ∧ v < 256) (hn : v ≠ nr (Abs.rowAt (wEnc g o x) i) 0) :
    (recB g o (overL (wEnc g o x) i [[.int .u8 v]] ++ rest)).2 = false := by
  have b1 := bigF_len 4 (x.length : Int)
  have b2 := bigF_len 4 (wSum g o x)
  have hw := wSum_range g o x
  have e0 : wEnc g o x = [Cell.int .u8 229] :: (bigF 4 x.length ++ (x ++ (bigF 4 (wSum g o x) ++ [[.int .u8 255]]))) := rfl
  have nv : nr [Cell.int .u8 v] 0 = v := rfl
  rcases hi with rfl | hi
  · rw [e0] at hn ⊢
    have hn : v ≠ 229 := hn
    rw [over_one]
    unfold recB
    rw [if_pos]
    right
    exact hn
  -- behind the mark and the length
  have e1 : wEnc g o x = ([Cell.int .u8 229] :: bigF 4 x.length) ++ (x ++ (bigF 4 (wSum g o x) ++ [[.int .u8 255]])) := rfl
  have l1 : ([Cell.int .u8 229] :: bigF 4 x.length).length = 5 := by rw [List.length_cons, b1]
  rw [e1] at hn ⊢
  rw [row_app_right (by omega) (by simp only [List.length_append, List.length_cons, List.length_nil, b1, b2]; omega), l1] at hn
  rw [over_app_right (by omega), l1]
  generalize hj : i - 5 = j at *
  by_cases c1 : j < x.length
  · rw [row_app_left c1] at hn
    rw [over_app_left (by simp; omega)]
    have hx2 : okB (overL x j [[.int .u8 v]]) = true := okB_over hx (by simp only [okB, List.all_cons, List.all_nil, isByte, Bool.and_true, Bool.and_eq_true, decide_eq_true_eq]; omega) _
    have hxl : (overL x j [[.int .u8 v]]).length = x.length := overL_len (by simp; omega)
    have ho := over_one (x := x) (i := j) [.int .u8 v]
    have hs := split_at c1
    generalize overL x j [[.int .u8 v]] = x2 at *
    have := recB_raw (g := g) (o := o) (x := x2) (t := bigF 4 (wSum g o x)) (e := [.int .u8 255]) (rest := rest) (by omega) (by omega) b2
    rw [hxl] at this
    have ea : ([Cell.int .u8 229] :: bigF 4 x.length) ++ (x2 ++ (bigF 4 (wSum g o x) ++ [[Cell.int .u8 255]])) ++ rest = [Cell.int .u8 229] :: (bigF 4 x.length ++ (x2 ++ (bigF 4 (wSum g o x) ++ ([.int .u8 255] :: rest)))) := by simp
    rw [ea, this]
    have hd : numF 0 (bigF 4 (wSum g o x)) = wSum g o x := by
      rw [numF_big 4 0 _ hw.1 (by rw [show (256 : Int) ^ 4 = 4294967296 by decide]; exact hw.2)]; omega
    rw [hd]
    have : ¬ wSum g o x = wSum g o x2 := by
      intro hc
      unfold wSum at hc
      rw [hxl, ho] at hc
      have hc2 : crcS ((bigF 8 g ++ (bigF 4 o ++ (bigF 4 x.length ++ x.take j))) ++ (Abs.rowAt x j :: x.drop (j + 1))) = crcS ((bigF 8 g ++ (bigF 4 o ++ (bigF 4 x.length ++ x.take j))) ++ ([Cell.int .u8 v] :: x.drop (j + 1))) := by
        simp only [List.append_assoc]
        rw [← hs]
        exact hc
      exact hn (crcS_one (b := [Cell.int .u8 v]) (okB_at hx c1) hv hc2).symm
    rw [decide_eq_false this]
    rfl
  rw [row_app_right (by omega) (by simp only [List.length_append, List.length_cons, List.length_nil, b2]; omega)] at hn
  rw [over_app_right (by omega)]
  generalize hk : j - x.length = k at *
  by_cases c2 : k < 4
  · rw [row_app_left (by omega)] at hn
    rw [over_app_left (by simp [b2]; omega)]
    have hs := split_at (x := bigF 4 (wSum g o x)) (i := k) (by omega)
    have ho := over_one (x := bigF 4 (wSum g o x)) (i := k) [.int .u8 v]
    have htl : (overL (bigF 4 (wSum g o x)) k [[.int .u8 v]]).length = 4 := by rw [overL_len (by simp [b2]; omega), b2]
    have hd : numF 0 (bigF 4 (wSum g o x)) = wSum g o x := by
      rw [numF_big 4 0 _ hw.1 (by rw [show (256 : Int) ^ 4 = 4294967296 by decide]; exact hw.2)]; omega
    generalize overL (bigF 4 (wSum g o x)) k [[.int .u8 v]] = t at *
    have := recB_raw (g := g) (o := o) (x := x) (t := t) (e := [.int .u8 255]) (rest := rest) h1 h2 htl
    have ea : ([Cell.int .u8 229] :: bigF 4 x.length) ++ (x ++ (t ++ [[Cell.int .u8 255]])) ++ rest = [Cell.int .u8 229] :: (bigF 4 x.length ++ (x ++ (t ++ ([.int .u8 255] :: rest)))) := by simp
    rw [ea, this]
    have : ¬ numF 0 t = wSum g o x := by
      intro hc
      rw [← hd, ho] at hc
      conv at hc => rhs; rw [hs]
      exact hn (numF_one hc)
    rw [decide_eq_false this]
    rfl
  · have hk4 : k = 4 := by omega
    subst hk4
    rw [row_app_right (by omega) (by simp [b2]), b2] at hn
    rw [over_app_right (by omega), b2]
    have hn : v ≠ 255 := hn
    have ho : overL [[Cell.int .u8 255]] (4 - 4) [[.int .u8 v]] = [[.int .u8 v]] := rfl
    rw [ho]
    have := recB_raw (g := g) (o := o) (x := x) (t := bigF 4 (wSum g o x)) (e := [.int .u8 v]) (rest := rest) h1 h2 b2
    have ea : ([Cell.int .u8 229] :: bigF 4 x.length) ++ (x ++ (bigF 4 (wSum g o x) ++ [[Cell.int .u8 v]])) ++ rest = [Cell.int .u8 229] :: (bigF 4 x.length ++ (x ++ (bigF 4 (wSum g o x) ++ ([.int .u8 v] :: rest)))) := by simp
    rw [ea, this]
    have : ¬ nr [Cell.int .u8 v] 0 = 255 := hn
    rw [decide_eq_false this, Bool.and_false]

theorem xor8_range (a b : Int) : 0 ≤ xorI .u8 a b ∧ xorI .u8 a b < 256 := by
  unfold xorI
  rw [wrapu8_eq]
  omega
theorem xor8_ne {a b : Int} (h0 : 0 ≤ a) (h1 : a < 256) (hb0 : 0 ≤ b) (hb1 : b < 256) (hb : b ≠ 0) : xorI .u8 a b ≠ a := by
  intro h
  unfold xorI at h
  have hlt := (BitVec.ofInt 8 a ^^^ BitVec.ofInt 8 b).isLt
  have e : IntKind.u8.bits = 8 := rfl
  rw [e, wrapu8_eq] at h
  obtain ⟨n, rfl⟩ := Int.eq_ofNat_of_zero_le h0
  obtain ⟨m, rfl⟩ := Int.eq_ofNat_of_zero_le hb0
  rw [BitVec.ofInt_natCast, BitVec.ofInt_natCast] at h hlt
  have e2 : ((BitVec.ofNat 8 n) ^^^ (BitVec.ofNat 8 m)).toNat = (BitVec.ofNat 8 n).toNat := by
    rw [BitVec.toNat_ofNat, Nat.mod_eq_of_lt (by omega)]
    omega
  have e3 := BitVec.eq_of_toNat_eq e2
  have e4 : BitVec.ofNat 8 m = 0#8 := by
    have := congrArg (BitVec.ofNat 8 n ^^^ ·) e3
    simpa [← BitVec.xor_assoc] using this
  have e5 := congrArg BitVec.toNat e4
  rw [BitVec.toNat_ofNat, Nat.mod_eq_of_lt (by omega)] at e5
  simp at e5
  omega

/- The law of a changed byte. -/

/-- a disk whose record at some place was changed is opened -/
theorem turned {d : Dk} {l : Lg} {a : List (List Cell)} {j i : Nat} {v : Int} (hI : Inv d l) (hr : l.recs = a) (hj : j < a.length) (hi : i = 0 ∨ 5 ≤ i) (hil : i < (nl (Abs.rowAt a j) 0).length + 10) (hv : 0 ≤ v ∧ v < 256)
    (hn : v ≠ nr (Abs.rowAt (wEnc 1 (recsN (a.take j)) (nl (Abs.rowAt a j) 0)) i) 0) :
    ∃ d3, openM (onB d (overL d.dur (32 + (recsN (a.take j)).toNat + i) [[.int .u8 v]])) = ⟨d3, ⟨0, 1, cloneR (a.take j), recsN (a.take j), false⟩, 0⟩ ∧ Live d3 ⟨0, 1, cloneR (a.take j), recsN (a.take j), false⟩ ∧ d3.dur.length = d.dur.length := by
  subst hr
  have hG := hI.live.good
  have hh := half_of hG.ok
  have h64 := hI.live.lg.half
  have hfin := hI.live.lg.fin
  have hfn := hI.live.fin
  have hmem := rowAt_mem hj
  have hx := recsE_mem hI.live.recsE _ hmem
  have hxb := hI.live.recs _ hmem
  have hsp := split_at hj
  generalize hxe : nl (Abs.rowAt l.recs j) 0 = x at *
  generalize hoe : recsN (l.recs.take j) = o at *
  have hnt := recsN_nn (l.recs.take j)
  have hel := encW_len 1 (l.recs.take j) 0
  rw [hoe] at hnt hel
  have hwl := wEnc_len 1 o x
  -- the bytes
  have henc : encW 1 0 l.recs = encW 1 0 (l.recs.take j) ++ (wEnc 1 o x ++ encW 1 (o + x.length + 10) (l.recs.drop (j + 1))) := by
    conv => lhs; rw [hsp, encW_app, hoe]
    rw [encW, hxe, Int.zero_add]
  have hlr := encW_len 1 (l.recs.drop (j + 1)) (o + x.length + 10)
  have hsum : recsN l.recs = o + ((x.length : Int) + 10 + recsN (l.recs.drop (j + 1))) := by
    conv => lhs; rw [hsp, recsN_app, hoe, recsN, hxe]
  have hnd := recsN_nn (l.recs.drop (j + 1))
  generalize hE1 : encW 1 0 (l.recs.take j) = E1 at *
  generalize hE2 : encW 1 (o + x.length + 10) (l.recs.drop (j + 1)) = E2 at *
  generalize hY : wEnc 1 o x = Y at *
  generalize hY2 : overL Y i [[.int .u8 v]] = Y2
  have hcb : okB [[Cell.int .u8 v]] = true := by simp only [okB, List.all_cons, List.all_nil, isByte, Bool.and_true, Bool.and_eq_true, decide_eq_true_eq]; omega
  have hY2l : Y2.length = x.length + 10 := by rw [← hY2, overL_len (by simp; omega), hwl]
  have hdur : d.dur = (wHdr 1 ++ E1) ++ (Y ++ (E2 ++ Z (d.dur.length - 32 - l.fin.toNat))) := by
    conv => lhs; rw [hI.dur, henc]
    simp
  have hk : d.dur.length = 32 + E1.length + (x.length + 10) + E2.length + (d.dur.length - 32 - l.fin.toNat) := by
    have := congrArg List.length hdur
    simp only [List.length_append, wHdr_len, hwl, List.length_replicate] at this
    omega
  have hAl : (wHdr 1 ++ E1).length = 32 + o.toNat := by rw [List.length_append, wHdr_len]; omega
  have hov : overL d.dur (32 + o.toNat + i) [[.int .u8 v]] = (wHdr 1 ++ E1) ++ (Y2 ++ (E2 ++ Z (d.dur.length - 32 - l.fin.toNat))) := by
    conv => lhs; rw [hdur]
    rw [over_app_right (by omega), hAl, show 32 + o.toNat + i - (32 + o.toNat) = i by omega, over_app_left (by simp; omega), hY2]
  have hol : (overL d.dur (32 + o.toNat + i) [[.int .u8 v]]).length = d.dur.length := overL_len (by simp; omega)
  have hob : okB (overL d.dur (32 + o.toNat + i) [[.int .u8 v]]) = true := okB_over hG.ok.bd hcb _
  have hG2 := onB_good hG hol hob
  have hh2 := onB_half (d := d) hol
  have hd2 : (onB d (overL d.dur (32 + o.toNat + i) [[.int .u8 v]])).dur = (wHdr 1 ++ E1) ++ (Y2 ++ (E2 ++ Z (d.dur.length - 32 - l.fin.toNat))) := hov
  have hd2l : (onB d (overL d.dur (32 + o.toNat + i) [[.int .u8 v]])).dur.length = d.dur.length := hol
  generalize onB d (overL d.dur (32 + o.toNat + i) [[.int .u8 v]]) = d2 at *
  have g1 : d2.gen 1 = 0 := by
    refine gen1_zero hG2 (by omega) (x := (wHdr 1 ++ E1) ++ (Y2 ++ E2)) (k := d.dur.length - 32 - l.fin.toNat) ?_ ?_
    · rw [hd2]; simp
    · simp only [List.length_append, wHdr_len]; omega
  have hop := open_one hG2 (by omega) (y := E1 ++ (Y2 ++ (E2 ++ Z (d.dur.length - 32 - l.fin.toNat)))) (by rw [hd2]; simp) g1
  have har : subL (E1 ++ (Y2 ++ (E2 ++ Z (d.dur.length - 32 - l.fin.toNat)))) 0 (d2.half - 32).toNat = E1 ++ (Y2 ++ subL (E2 ++ Z (d.dur.length - 32 - l.fin.toNat)) 0 ((d2.half - 32).toNat - E1.length - Y2.length)) := by
    rw [sub_take _ _ (by omega), sub_take _ _ (by omega)]
  have harl : (subL (E1 ++ (Y2 ++ (E2 ++ Z (d.dur.length - 32 - l.fin.toNat)))) 0 (d2.half - 32).toNat).length = (d2.half - 32).toNat := by
    rw [subL_len (by simp only [List.length_append, List.length_replicate]; omega)]; omega
  rw [har] at hop harl
  generalize hR : subL (E2 ++ Z (d.dur.length - 32 - l.fin.toNat)) 0 ((d2.half - 32).toNat - E1.length - Y2.length) = R at *
  have hYb : okB Y = true := by rw [← hY]; exact wEnc_okB _ _ hxb
  have hE2b : okB E2 = true := by rw [← hE2]; exact encW_okB _ _ _ fun r hr => hI.live.recs r (List.mem_of_mem_drop hr)
  have hRb : okB R = true := by rw [← hR]; exact okB_sub (okB_app hE2b (okB_rep _)) _ _
  have hY2b : okB Y2 = true := by rw [← hY2]; exact okB_over hYb hcb _
  have hbad : (recB 1 o (Y2 ++ R)).2 = false := by
    rw [← hY2, ← hY]
    exact recB_bad hxb hx.1 hx.2 hi hil hv (by rw [hY]; exact hn)
  have hEt : recsE (l.recs.take j) = 0 := recsE_mk fun r hr => recsE_mem hI.live.recsE r (List.mem_of_mem_take hr)
  have hbt : ∀ r ∈ l.recs.take j, okB (nl r 0) = true := fun r hr => hI.live.recs r (List.mem_of_mem_take hr)
  have hsc : wScan 1 (E1 ++ (Y2 ++ R)) = (cloneR (l.recs.take j), o) := by
    have := scan_enc0 (g := 1) hEt hbt (okB_app hY2b hRb) (by rw [hoe]; exact hbad)
    rw [hoe, hE1] at this
    exact this
  have lv : ∀ d3 : Dk, Good d3 → d3.dur.length = d.dur.length → Live d3 ⟨0, 1, cloneR (l.recs.take j), o, false⟩ := fun d3 h3 hl3 => by
    have hh3 : d3.half = d.half := by unfold Dk.half; rw [hl3]
    refine ⟨h3, ⟨by show (0 : Int) ≤ 0 ∧ (0 : Int) ≤ 1; omega, by show (0 : Int) ≤ 1 ∧ (1 : Int) < _; omega, by rw [hh3]; exact h64, ?_, ?_⟩, rfl, ?_, clone_okB hbt, ?_⟩
    · rw [hh3]
      show 0 ≤ o ∧ o ≤ d.half - 32
      omega
    · show ((cloneR (l.recs.take j)).length : Int) ≤ o
      rw [cloneR_len]; exact hnt.2
    · show o = recsN (cloneR (l.recs.take j))
      rw [recsN_clone, hoe]
    · show recsE (cloneR (l.recs.take j)) = 0
      rw [recsE_clone]; exact hEt
  rw [hop]
  unfold openT
  rw [hsc]
  dsimp only
  split
  · exact ⟨d2, rfl, lv d2 hG2 hd2l, hd2l⟩
  · have hs := store_good hG2 (o := 0 * d2.half + 32 + o) (x := zeros ((E1 ++ (Y2 ++ R)).length - o)) (by omega) (by rw [zeros_len]; omega)
    rw [hs]
    have hol3 : (overL d2.dur (0 * d2.half + 32 + o).toNat (zeros ((E1 ++ (Y2 ++ R)).length - o))).length = d2.dur.length := overL_len (by rw [zeros_len]; omega)
    exact ⟨_, rfl, lv _ (onB_good hG2 hol3 (okB_over hG2.ok.bd (zeros_okB _) _)) (by show (overL d2.dur _ _).length = _; rw [hol3]; exact hd2l), by show (overL d2.dur _ _).length = _; rw [hol3]; exact hd2l⟩

theorem turned_row {d : Dk} {l : Lg} {a : List (List Cell)} {j i : Nat} (hI : Inv d l) (hr : l.recs = a) (hj : j < a.length) (hil : i < (nl (Abs.rowAt a j) 0).length + 10) :
    32 + (recsN (a.take j)).toNat + i + 1 ≤ d.dur.length ∧ Abs.rowAt d.dur (32 + (recsN (a.take j)).toNat + i) = Abs.rowAt (wEnc 1 (recsN (a.take j)) (nl (Abs.rowAt a j) 0)) i := by
  subst hr
  have hnt := recsN_nn (l.recs.take j)
  have hel := encW_len 1 (l.recs.take j) 0
  have hsp := split_at hj
  have hwl := wEnc_len 1 (recsN (l.recs.take j)) (nl (Abs.rowAt l.recs j) 0)
  have henc : encW 1 0 l.recs = encW 1 0 (l.recs.take j) ++ (wEnc 1 (recsN (l.recs.take j)) (nl (Abs.rowAt l.recs j) 0) ++ encW 1 (recsN (l.recs.take j) + (nl (Abs.rowAt l.recs j) 0).length + 10) (l.recs.drop (j + 1))) := by
    conv => lhs; rw [hsp, encW_app]
    rw [encW, Int.zero_add]
  have hdur : d.dur = (wHdr 1 ++ encW 1 0 (l.recs.take j)) ++ (wEnc 1 (recsN (l.recs.take j)) (nl (Abs.rowAt l.recs j) 0) ++ (encW 1 (recsN (l.recs.take j) + (nl (Abs.rowAt l.recs j) 0).length + 10) (l.recs.drop (j + 1)) ++ Z (d.dur.length - 32 - l.fin.toNat))) := by
    conv => lhs; rw [hI.dur, henc]
    simp
  have hAl : (wHdr 1 ++ encW 1 0 (l.recs.take j)).length = 32 + (recsN (l.recs.take j)).toNat := by rw [List.length_append, wHdr_len]; omega
  generalize wHdr 1 ++ encW 1 0 (l.recs.take j) = A at *
  generalize encW 1 (recsN (l.recs.take j) + (nl (Abs.rowAt l.recs j) 0).length + 10) (l.recs.drop (j + 1)) ++ Z (d.dur.length - 32 - l.fin.toNat) = B at *
  have hlen := congrArg List.length hdur
  simp only [List.length_append] at hlen
  refine ⟨by omega, ?_⟩
  rw [hdur, row_app_right (by omega) (by simp only [List.length_append]; omega), hAl, row_app_left (by omega)]
  congr 1
  omega

theorem write_sync {d : Dk} (h : Good d) {o : Int} {x : List (List Cell)} (h0 : 0 ≤ o) (ho : o + x.length ≤ d.dur.length) : (d.write o x).e = 0 ∧ (d.write o x).d.sync = ⟨onB d (overL d.dur o.toNat x), 0⟩ := by
  have hs := store_good h h0 ho
  have hw : (d.write o x).e = 0 := by
    obtain ⟨q', h1, -⟩ := wrF_good (x.length + 1) d o x h.arm h0 (by rw [h.cur]; exact ho) (by omega)
    unfold Dk.write
    rw [if_neg (by rw [chk_mk h.down h0 (by omega) (by rw [h.cur]; omega)]; simp), h1]
  refine ⟨hw, ?_⟩
  unfold Dk.store at hs
  rw [if_pos hw] at hs
  exact hs
theorem row_sub {x : List (List Cell)} {p : Nat} (h : p < x.length) : subL x p (p + 1) = [Abs.rowAt x p] := by
  rw [subL_eq, List.drop_take, drop_cons x p h]
  have : p + 1 - p = 1 := by omega
  rw [this]
  rfl

theorem t6 {d : Dk} {l : Lg} {a : List (List Cell)} {j i : Nat} {by' p : Int} (hI : Inv d l) (hr : l.recs = a) (ha : ∀ s ∈ a, okB (nl s 0) = true ∧ 1 ≤ (nl s 0).length ∧ (nl s 0).length ≤ 41 ∧ s = wRow (nl s 0)) (hal : a.length ≤ 6) (hn : d.dur.length = 1024) (hj : j < a.length) (hi : i = 0 ∨ 5 ≤ i) (hil : i < (nl (Abs.rowAt a j) 0).length + 10)
    (hy : 0 ≤ by' ∧ by' < 256) (hy0 : by' ≠ 0) (hp : p = ((32 + (recsN (a.take j)).toNat + i : Nat) : Int)) {T F : Option (List AV × List Block)} :
    (cond (okDk 1024 1024 d) (cond ((Dk.chk d p 1) != 0) F (cond (((Dk.rd d p 1).length : Int) != 1) F (cond (inB 0 (Dk.rd d p 1).length)
     (cond (okDk 1024 1024 d && okWx d [[Cell.int .u8 (xorI .u8 (nr (Abs.rowAt (Dk.rd d p 1) 0) 0) by')]])
      (cond ((Dr.e (Dk.write d p [[Cell.int .u8 (xorI .u8 (nr (Abs.rowAt (Dk.rd d p 1) 0) 0) by')]])) != 0) F
       (cond (okDk 1024 1024 (Dr.d (Dk.write d p [[Cell.int .u8 (xorI .u8 (nr (Abs.rowAt (Dk.rd d p 1) 0) 0) by')]])))
        (cond ((Dr.e (Dk.sync (Dr.d (Dk.write d p [[Cell.int .u8 (xorI .u8 (nr (Abs.rowAt (Dk.rd d p 1) 0) 0) by')]])))) != 0) F
         (cond (okDk 1024 1024 (Dr.d (Dk.sync (Dr.d (Dk.write d p [[Cell.int .u8 (xorI .u8 (nr (Abs.rowAt (Dk.rd d p 1) 0) 0) by')]])))) && (pd ((Dk.q (Dr.d (Dk.sync (Dr.d (Dk.write d p [[Cell.int .u8 (xorI .u8 (nr (Abs.rowAt (Dk.rd d p 1) 0) 0) by')]]))))).length ≤ 1000000) && ((Lr.e (openM (Dr.d (Dk.sync (Dr.d (Dk.write d p [[Cell.int .u8 (xorI .u8 (nr (Abs.rowAt (Dk.rd d p 1) 0) 0) by')]])))))) == 0)))
          (cond (okRs (Lg.recs (Lr.l (openM (Dr.d (Dk.sync (Dr.d (Dk.write d p [[Cell.int .u8 (xorI .u8 (nr (Abs.rowAt (Dk.rd d p 1) 0) 0) by')]]))))))))
           (cond (inB (j : Int) (a.length + 1))
            (cond (pd ((cloneR (Lg.recs (Lr.l (openM (Dr.d (Dk.sync (Dr.d (Dk.write d p [[Cell.int .u8 (xorI .u8 (nr (Abs.rowAt (Dk.rd d p 1) 0) 0) by')]])))))))).length ≤ 9223372036854775807))
             (cond (sameR (cloneR (Lg.recs (Lr.l (openM (Dr.d (Dk.sync (Dr.d (Dk.write d p [[Cell.int .u8 (xorI .u8 (nr (Abs.rowAt (Dk.rd d p 1) 0) 0) by')]])))))))) (takeN a (Int.toNat (j : Int))))
              (cond (okDk 1024 1024 (Lr.d (openM (Dr.d (Dk.sync (Dr.d (Dk.write d p [[Cell.int .u8 (xorI .u8 (nr (Abs.rowAt (Dk.rd d p 1) 0) 0) by')]])))))) && okLg (Lr.d (openM (Dr.d (Dk.sync (Dr.d (Dk.write d p [[Cell.int .u8 (xorI .u8 (nr (Abs.rowAt (Dk.rd d p 1) 0) 0) by')]])))))) (Lr.l (openM (Dr.d (Dk.sync (Dr.d (Dk.write d p [[Cell.int .u8 (xorI .u8 (nr (Abs.rowAt (Dk.rd d p 1) 0) 0) by')]])))))) && okAp (Lr.d (openM (Dr.d (Dk.sync (Dr.d (Dk.write d p [[Cell.int .u8 (xorI .u8 (nr (Abs.rowAt (Dk.rd d p 1) 0) 0) by')]])))))) [[Cell.int .u8 5]])
               (cond ((Lr.e (appM (Lr.d (openM (Dr.d (Dk.sync (Dr.d (Dk.write d p [[Cell.int .u8 (xorI .u8 (nr (Abs.rowAt (Dk.rd d p 1) 0) 0) by')]])))))) (Lr.l (openM (Dr.d (Dk.sync (Dr.d (Dk.write d p [[Cell.int .u8 (xorI .u8 (nr (Abs.rowAt (Dk.rd d p 1) 0) 0) by')]])))))) [[Cell.int .u8 5]])) == 0) T F) none) F) none) none) none) none)) none)) none) none))) none) = T := by
  have hG := hI.live.good
  obtain ⟨r1, r2⟩ := turned_row hI hr hj hil
  have hok := hI.live.okDk hn
  have hc : d.chk p 1 = 0 := chk_mk hG.down (by omega) (by omega) (by rw [hG.cur]; omega)
  have hrd : d.rd p 1 = [Abs.rowAt d.dur (32 + (recsN (a.take j)).toNat + i)] := by
    rw [rd_of hc, hG.cur]
    have e1 : p.toNat = 32 + (recsN (a.take j)).toNat + i := by omega
    have e2 : (p + 1).toNat = 32 + (recsN (a.take j)).toNat + i + 1 := by omega
    rw [e1, e2, row_sub (by omega)]
  rw [hrd, hc]
  have hw8 := okB_at hG.ok.bd (i := 32 + (recsN (a.take j)).toNat + i) (by omega)
  show (cond _ (cond _ F (cond _ F (cond _ (cond (_ && okWx d [[Cell.int .u8 (xorI .u8 (nr (Abs.rowAt d.dur (32 + (recsN (a.take j)).toNat + i)) 0) by')]]) _ _) _))) _) = T
  have hrow : Abs.rowAt [Abs.rowAt d.dur (32 + (recsN (a.take j)).toNat + i)] 0 = Abs.rowAt d.dur (32 + (recsN (a.take j)).toNat + i) := rfl
  rw [hrow]
  generalize hv : xorI .u8 (nr (Abs.rowAt d.dur (32 + (recsN (a.take j)).toNat + i)) 0) by' = v
  have hvr : 0 ≤ v ∧ v < 256 := by rw [← hv]; exact xor8_range _ _
  have hvn : v ≠ nr (Abs.rowAt d.dur (32 + (recsN (a.take j)).toNat + i)) 0 := by rw [← hv]; exact xor8_ne hw8.1 hw8.2 hy.1 hy.2 hy0
  have hcb : okB [[Cell.int .u8 v]] = true := by simp only [okB, List.all_cons, List.all_nil, isByte, Bool.and_true, Bool.and_eq_true, decide_eq_true_eq]; omega
  obtain ⟨w1, w2⟩ := write_sync hG (o := p) (x := [[Cell.int .u8 v]]) (by omega) (by show p + ((1 : Nat) : Int) ≤ _; omega)
  have hkw := write_kept (o := p) hG.ok hcb (by rw [hG.q]; show 0 + 1 ≤ 4000000; omega)
  obtain ⟨d3, o1, o2, o3⟩ := turned hI hr hj hi hil hvr (by rw [← r2]; exact hvn)
  have hpe : p.toNat = 32 + (recsN (a.take j)).toNat + i := by omega
  rw [hpe] at w2
  rw [w2]
  dsimp only
  rw [o1]
  dsimp only
  have hol : (overL d.dur (32 + (recsN (a.take j)).toNat + i) [[.int .u8 v]]).length = d.dur.length := overL_len (by simp; omega)
  have hG2 := onB_good hG hol (okB_over hG.ok.bd hcb _)
  have ok2 : okDk 1024 1024 (onB d (overL d.dur (32 + (recsN (a.take j)).toNat + i) [[.int .u8 v]])) = true := okDk_mk (by show 1024 = (overL _ _ _).length; omega) (by show 1024 = (overL _ _ _).length; omega) hG2.ok
  have hct : cloneR (a.take j) = a.take j := clone_same fun s hs => (ha s (List.mem_of_mem_take hs)).2.2.2
  rw [hct] at o2 ⊢
  rw [hct]
  have hsm := sameR_clone (a.take j)
  rw [hct] at hsm
  have hn2 := recsN_mul (a := a.take j) (k := 51) fun s hs => by have := ha s (List.mem_of_mem_take hs); omega
  rw [List.length_take] at hn2
  have hh3 : d3.half = 512 := by unfold Dk.half; rw [o3, hn]; rfl
  have hap := app_fits o2 (x := [[Cell.int .u8 5]]) rfl (by decide) (by
    unfold Lg.free
    rw [hh3]
    show ((1 : Nat) : Int) + 10 ≤ 512 - 32 - recsN (a.take j)
    omega)
  refine ct hok (cf rfl (cf rfl (ct rfl (ct (and_mk hok (okWx_mk hcb (by rw [hG.q]; show 0 + 1 ≤ 4000000; omega))) (cf (bne_f w1) (ct (kept_ok hok hkw) (cf rfl (ct (and_mk ok2 (and_mk (pd_t (by show 0 ≤ 1000000; omega)) rfl)) (ct o2.okRs (ct (inB_le (by omega) (by omega)) (ct (pd_t (by rw [List.length_take]; omega)) (ct (by rw [takeN_eq, Int.toNat_natCast]; exact hsm) (ct (and_mk (and_mk (o2.okDk (by omega)) o2.okLg) (o2.okAp rfl)) (ct (beq_t (by rw [hap.1])) rfl))))))))))))))

theorem l6 (a : List (List Cell)) (at' by' : Int) (j : Nat) (ha : ∀ s ∈ a, okB (nl s 0) = true ∧ 1 ≤ (nl s 0).length ∧ (nl s 0).length ≤ 41 ∧ s = wRow (nl s 0)) (hal : a.length ≤ 6) (hj : j < a.length ∨ a = []) (hy : 0 ≤ by' ∧ by' < 256) :
    ∀ (k i : Nat) (d : Dk) (l : Lg), i + k = a.length → Inv d l → d.dur.length = 1024 → l.recs = a.take i → ∃ m, goF E (callOf L10) F6 0 m P6_0 (M6_0 at' by' a (32 + recsN (a.take (min i j))) j i 1024 1024 d.q d.arm d.left d.down d.dur d.cur l.act l.gen l.recs l.fin l.failed) = some ([.one (.bool true)], []) := by
  intro k
  induction k with
  | zero =>
    intro i d l hi hI hn hr
    have hi' : i = a.length := by omega
    subst hi'
    rw [List.take_length] at hr
    refine ⟨1, ?_⟩
    rw [e6_0]
    dsimp only
    rw [dk_eta]
    refine cf (decide_eq_false (by omega)) ?_
    by_cases ha0 : a = []
    · exact ct (by rw [ha0]; rfl) rfl
    have hj : j < a.length := hj.resolve_right ha0
    refine cf (beq_eq_false_iff_ne.mpr (by omega)) ?_
    by_cases hy0 : by' = 0
    · exact ct (beq_t hy0) rfl
    refine cf (beq_eq_false_iff_ne.mpr hy0) ?_
    have hm := ha _ (rowAt_mem hj)
    have hmin : min a.length j = j := by omega
    have hnn := recsN_nn (a.take j)
    have hn2 := recsN_mul (a := a.take j) (k := 51) fun s hs => by have := ha s (List.mem_of_mem_take hs); omega
    rw [List.length_take] at hn2
    rw [hmin, Int.toNat_natCast]
    rw [wrap64 (n := ((nl (Abs.rowAt a j) 0).length : Int) + 10) (by omega) (by omega), wrap64 (n := ((nl (Abs.rowAt a j) 0).length : Int) + 10 - 4) (by omega) (by omega)]
    have hg := gIndex_of (n := at') (k := ((nl (Abs.rowAt a j) 0).length : Int) + 10 - 4) (by omega)
    generalize gIndex at' (((nl (Abs.rowAt a j) 0).length : Int) + 10 - 4) = z at *
    refine ct (inB_nat' hj) (ct (pd_t (by omega)) ?_)
    by_cases hz : z > 0
    · refine ct (decide_eq_true hz) ?_
      rw [wrap64 (n := z + 4) (by omega) (by omega), wrap64 (n := 32 + recsN (a.take j) + (z + 4)) (by omega) (by omega)]
      exact t6 (i := (z + 4).toNat) hI hr ha hal hn hj (.inr (by omega)) (by omega) hy hy0 (by omega)
    · refine cf (decide_eq_false hz) ?_
      rw [wrap64 (n := 32 + recsN (a.take j) + z) (by omega) (by omega)]
      exact t6 (i := 0) hI hr ha hal hn hj (.inl rfl) (by omega) hy hy0 (by omega)
  | succ k ih =>
    intro i d l hi hI hn hr
    have hh : d.half = 512 := by unfold Dk.half; rw [hn]; rfl
    obtain ⟨a0, a1, a2, a3, a4, a5⟩ := app_next hI ha (i := i) (by omega) hr (by omega)
    obtain ⟨m, hm⟩ := ih (i + 1) _ _ (by omega) a2 (by omega) a3
    have hx := ha _ (rowAt_mem (x := a) (i := i) (by omega))
    refine ⟨m + 1, ?_⟩
    rw [e6_0]
    dsimp only
    rw [dk_eta, lg_eta, Int.toNat_natCast, wrap64 (n := (i : Int) + 1) (by omega) (by omega)]
    refine ct (decide_eq_true (by omega)) (ct (inB_nat' (by omega)) (ct (and_mk (and_mk (hI.live.okDk hn) hI.live.okLg) (hI.live.okAp a0)) (cf (bne_f a1) ?_)))
    have hn2 := recsN_mul (a := a.take (min i j)) (k := 51) fun s hs => by have := ha s (List.mem_of_mem_take hs); omega
    have hnn := recsN_nn (a.take (min i j))
    rw [List.length_take] at hn2
    by_cases hij : i < j
    · have e1 : min i j = i := by omega
      have e2 : min (i + 1) j = i + 1 := by omega
      rw [e1] at hn2 hnn ⊢
      rw [e2, take_succ' (by omega), recsN_app] at hm
      have e3 : 32 + (recsN (a.take i) + recsN [Abs.rowAt a i]) = 32 + recsN (a.take i) + ((nl (Abs.rowAt a i) 0).length : Int) + 10 := by simp [recsN]; omega
      rw [e3] at hm
      rw [wrap64 (n := 32 + recsN (a.take i) + ((nl (Abs.rowAt a i) 0).length : Int)) (by omega) (by omega), wrap64 (n := 32 + recsN (a.take i) + ((nl (Abs.rowAt a i) 0).length : Int) + 10) (by omega) (by omega)]
      exact ct (decide_eq_true (by omega)) (ct (inB_nat' (by omega)) (by exact_mod_cast hm))
    · have e1 : min i j = min (i + 1) j := by omega
      rw [e1]
      exact cf (decide_eq_false (by omega)) (by exact_mod_cast hm)

theorem okY_of {y : Int} (h : okY y = true) : 0 ≤ y ∧ y < 256 := by
  unfold okY at h
  simp only [Bool.and_eq_true] at h
  exact ⟨pd_of h.1, pd_of h.2⟩

theorem k6 (r : List (List Cell)) (w at' by' : Int) (hr : okArg r = true) (hy : okY by' = true) : ∃ m, runF E (callOf L10) m 6 [.one (.sl false 22 r), .one (.int .i64 w), .one (.int .i64 at'), .one (.int .u8 by')] [] = some ([.one (.bool true)], []) := by
  obtain ⟨hr1, hr2⟩ := okArg_of hr
  have hL := live_new 32 (by omega)
  have hI := inv_new 32 (by omega)
  have hA := mkRs_of hr2 6
  have hrec : (openM (newDk 32)).l.recs = [] := by rw [open_new 32 (by omega)]
  have hal : (mkRs r 6).length ≤ 6 := hA.2
  have hg := gIndex_of (n := w) (k := if ((mkRs r 6).length : Int) > 1 then ((mkRs r 6).length : Int) else 1) (by split <;> omega)
  have hlt : gIndex w (if ((mkRs r 6).length : Int) > 1 then ((mkRs r 6).length : Int) else 1) < (mkRs r 6).length ∨ mkRs r 6 = [] := by
    by_cases h0 : (mkRs r 6).length = 0
    · right; exact List.eq_nil_of_length_eq_zero h0
    · left
      have := hg.2
      split at this <;> (split; all_goals omega)
  generalize hje : gIndex w (if ((mkRs r 6).length : Int) > 1 then ((mkRs r 6).length : Int) else 1) = jj at *
  obtain ⟨j, rfl⟩ := Int.eq_ofNat_of_zero_le hg.1
  obtain ⟨m, hm⟩ := l6 (mkRs r 6) at' by' j hA.1 hal (hlt.imp (fun h => by omega) id) (okY_of hy) (mkRs r 6).length 0 _ _ (by omega) hI (by rw [hL.2.1, secN32]) (by rw [hrec]; rfl)
  refine ⟨m + 1, ?_⟩
  rw [e6]
  have hng := new_guard (n := 32) (by omega)
  rw [hrec] at hm
  rw [hje]
  rw [secN32, hrec] at *
  have e0 : (32 : Int) + recsN ((mkRs r 6).take (min 0 j)) = 32 := by simp [recsN]
  rw [e0] at hm
  exact ct hng (ct (and_mk (pd_t hr1) (pd_t (by omega))) (ct (pd_t (by split <;> omega)) hm))

end Go.Proofs.Ytpafnokcmhlbgaa
