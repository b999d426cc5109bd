/-
  Plain law: a checksum finds a byte that was changed.
-/
import Derived.Test.YtpafnokcmhlbgaaW11
namespace Go.Proofs.Ytpafnokcmhlbgaa
open Go.Abs

theorem wrap32 {n : Int} (h0 : 0 ≤ n) (h : n < 4294967296) : IntKind.wrap .u32 n = n := by
  have h1 : (2 : Int) ^ IntKind.u32.bits = 4294967296 := by decide
  have e : IntKind.u32.wrap n = if (IntKind.u32.signed && decide (n % 2 ^ IntKind.u32.bits ≥ 2 ^ (IntKind.u32.bits - 1))) = true then n % 2 ^ IntKind.u32.bits - 2 ^ IntKind.u32.bits else n % 2 ^ IntKind.u32.bits := rfl
  rw [e, h1]
  simp [IntKind.signed]
  omega
theorem xor_eq (a b : Int) : xorI .u32 a b = ((BitVec.ofInt 32 a ^^^ BitVec.ofInt 32 b).toNat : Int) := by
  have hlt := (BitVec.ofInt 32 a ^^^ BitVec.ofInt 32 b).isLt
  unfold xorI
  exact wrap32 (Int.natCast_nonneg _) (Int.ofNat_lt.mpr hlt)
theorem ofInt_inj {a b : Int} (h0 : 0 ≤ a) (h1 : a < 4294967296) (h2 : 0 ≤ b) (h3 : b < 4294967296) (h : BitVec.ofInt 32 a = BitVec.ofInt 32 b) : a = b := by
  obtain ⟨n, rfl⟩ := Int.eq_ofNat_of_zero_le h0
  obtain ⟨m, rfl⟩ := Int.eq_ofNat_of_zero_le h2
  have hn : n < 2 ^ 32 := by omega
  have hm : m < 2 ^ 32 := by omega
  have e := congrArg BitVec.toNat h
  rw [BitVec.ofInt_natCast, BitVec.ofInt_natCast, BitVec.toNat_ofNat, BitVec.toNat_ofNat, Nat.mod_eq_of_lt hn, Nat.mod_eq_of_lt hm] at e
  rw [e]
theorem bv_cancel {n : Nat} {x y c : BitVec n} (h : x ^^^ c = y ^^^ c) : x = y := by
  have e := congrArg (· ^^^ c) h
  simpa [BitVec.xor_assoc] using e
theorem xor_inj {a b c : Int} (h0 : 0 ≤ a) (h1 : a < 4294967296) (h2 : 0 ≤ b) (h3 : b < 4294967296) (h : xorI .u32 a c = xorI .u32 b c) : a = b := by
  rw [xor_eq, xor_eq] at h
  have e : (BitVec.ofInt 32 a ^^^ BitVec.ofInt 32 c).toNat = (BitVec.ofInt 32 b ^^^ BitVec.ofInt 32 c).toNat := Int.ofNat.inj h
  exact ofInt_inj h0 h1 h2 h3 (bv_cancel (BitVec.eq_of_toNat_eq e))
theorem xor_comm32 (a b : Int) : xorI .u32 a b = xorI .u32 b a := by rw [xor_eq, xor_eq, BitVec.xor_comm]
theorem xor_inj' {a b c : Int} (h0 : 0 ≤ a) (h1 : a < 4294967296) (h2 : 0 ≤ b) (h3 : b < 4294967296) (h : xorI .u32 c a = xorI .u32 c b) : a = b := by
  rw [xor_comm32 c a, xor_comm32 c b] at h
  exact xor_inj h0 h1 h2 h3 h
theorem xor_top {a : Int} (h0 : 0 ≤ a) (h1 : a < 2147483648) : 2147483648 ≤ xorI .u32 a 2197175160 := by
  rw [xor_eq]
  obtain ⟨n, rfl⟩ := Int.eq_ofNat_of_zero_le h0
  have hm : (BitVec.ofInt 32 (n : Int) ^^^ BitVec.ofInt 32 2197175160).msb = true := by
    have e1 : (BitVec.ofInt 32 (n : Int)).msb = false := by
      rw [BitVec.msb_eq_decide, BitVec.ofInt_natCast, BitVec.toNat_ofNat, Nat.mod_eq_of_lt (by omega)]
      exact decide_eq_false (by omega)
    have e2 : (BitVec.ofInt 32 2197175160).msb = true := by decide
    rw [BitVec.msb_xor, e1, e2]; rfl
  rw [BitVec.msb_eq_decide] at hm
  have := of_decide_eq_true hm
  omega
theorem and_one32 {u : Int} (h0 : 0 ≤ u) (h1 : u < 4294967296) : andI .u32 u 1 = u % 2 := by
  unfold andI
  have hb : IntKind.u32.bits = 32 := rfl
  obtain ⟨n, rfl⟩ := Int.eq_ofNat_of_zero_le h0
  have hn : n < 2 ^ 32 := by omega
  have e : BitVec.ofInt 32 1 = 1#32 := by decide
  have e1 : (1#32).toNat = 1 := by decide
  rw [hb, e, BitVec.ofInt_natCast, BitVec.toNat_and, BitVec.toNat_ofNat, Nat.mod_eq_of_lt hn, e1, Nat.and_one_is_mod, wrap32 (by omega) (by omega)]
  omega
theorem shr1_32 (u : Int) : shrI .u32 u 1 = u / 2 := by
  unfold shrI
  have e : (min (1 : Int).toNat IntKind.u32.bits) = 1 := by decide
  rw [e, Int.fdiv_eq_ediv_of_nonneg]
  · rfl
  · decide

theorem crcBit_eq {c : Int} (h0 : 0 ≤ c) (h1 : c < 4294967296) : crcBit c = if c % 2 = 0 then c / 2 else xorI .u32 (c / 2) 2197175160 := by
  unfold crcBit
  rw [and_one32 h0 h1, shr1_32]
  by_cases h : c % 2 = 0
  · rw [if_pos h, h]; rfl
  · rw [if_neg h, show c % 2 = 1 by omega]; rfl
theorem crcBit_range {c : Int} (h0 : 0 ≤ c) (h1 : c < 4294967296) : 0 ≤ crcBit c ∧ crcBit c < 4294967296 := by
  rw [crcBit_eq h0 h1]
  split
  · omega
  · exact xor_u32 _ _
theorem crcBit_inj {a b : Int} (h0 : 0 ≤ a) (h1 : a < 4294967296) (h2 : 0 ≤ b) (h3 : b < 4294967296) (h : crcBit a = crcBit b) : a = b := by
  rw [crcBit_eq h0 h1, crcBit_eq h2 h3] at h
  have ta := xor_top (a := a / 2) (by omega) (by omega)
  have tb := xor_top (a := b / 2) (by omega) (by omega)
  split at h <;> split at h
  · omega
  · omega
  · omega
  · have := xor_inj (by omega) (by omega) (by omega) (by omega) h
    omega
theorem crcBits_range : ∀ (k : Nat) {c : Int}, 0 ≤ c → c < 4294967296 → 0 ≤ crcBits k c ∧ crcBits k c < 4294967296
  | 0, _, h0, h1 => ⟨h0, h1⟩
  | k + 1, _, h0, h1 => crcBits_range k (crcBit_range h0 h1).1 (crcBit_range h0 h1).2
theorem crcBits_inj : ∀ (k : Nat) {a b : Int}, 0 ≤ a → a < 4294967296 → 0 ≤ b → b < 4294967296 → crcBits k a = crcBits k b → a = b
  | 0, _, _, _, _, _, _, h => h
  | k + 1, _, _, h0, h1, h2, h3, h => crcBit_inj h0 h1 h2 h3 (crcBits_inj k (crcBit_range h0 h1).1 (crcBit_range h0 h1).2 (crcBit_range h2 h3).1 (crcBit_range h2 h3).2 h)
theorem crcF_range : ∀ (x : List (List Cell)) {c : Int}, 0 ≤ c → c < 4294967296 → 0 ≤ crcF c x ∧ crcF c x < 4294967296
  | [], _, h0, h1 => ⟨h0, h1⟩
  | r :: x, _, _, _ => crcF_range x (crcBits_range 8 (xor_u32 _ _).1 (xor_u32 _ _).2).1 (crcBits_range 8 (xor_u32 _ _).1 (xor_u32 _ _).2).2
theorem crcF_inj : ∀ (x : List (List Cell)) {a b : Int}, 0 ≤ a → a < 4294967296 → 0 ≤ b → b < 4294967296 → crcF a x = crcF b x → a = b
  | [], _, _, _, _, _, _, h => h
  | r :: x, _, _, h0, h1, h2, h3, h => by
    have i := crcF_inj x (crcBits_range 8 (xor_u32 _ _).1 (xor_u32 _ _).2).1 (crcBits_range 8 (xor_u32 _ _).1 (xor_u32 _ _).2).2 (crcBits_range 8 (xor_u32 _ _).1 (xor_u32 _ _).2).1 (crcBits_range 8 (xor_u32 _ _).1 (xor_u32 _ _).2).2 h
    exact xor_inj h0 h1 h2 h3 (crcBits_inj 8 (xor_u32 _ _).1 (xor_u32 _ _).2 (xor_u32 _ _).1 (xor_u32 _ _).2 i)
theorem crcF_app (x y : List (List Cell)) : ∀ c, crcF c (x ++ y) = crcF (crcF c x) y := by
  induction x with
  | nil => intro c; rfl
  | cons r x ih => intro c; simp only [List.cons_append, crcF, ih]
theorem crcS_one {p q : List (List Cell)} {a b : List Cell} (ha : 0 ≤ nr a 0 ∧ nr a 0 < 256) (hb : 0 ≤ nr b 0 ∧ nr b 0 < 256) (h : crcS (p ++ (a :: q)) = crcS (p ++ (b :: q))) : nr a 0 = nr b 0 := by
  unfold crcS at h
  have m : (0 : Int) ≤ 4294967295 ∧ (4294967295 : Int) < 4294967296 := by omega
  have i := xor_inj' (crcF_range _ m.1 m.2).1 (crcF_range _ m.1 m.2).2 (crcF_range _ m.1 m.2).1 (crcF_range _ m.1 m.2).2 h
  rw [crcF_app, crcF_app] at i
  simp only [crcF] at i
  have j := crcF_inj q (crcBits_range 8 (xor_u32 _ _).1 (xor_u32 _ _).2).1 (crcBits_range 8 (xor_u32 _ _).1 (xor_u32 _ _).2).2 (crcBits_range 8 (xor_u32 _ _).1 (xor_u32 _ _).2).1 (crcBits_range 8 (xor_u32 _ _).1 (xor_u32 _ _).2).2 i
  have k := crcBits_inj 8 (xor_u32 _ _).1 (xor_u32 _ _).2 (xor_u32 _ _).1 (xor_u32 _ _).2 j
  rw [wrap32 ha.1 (by omega), wrap32 hb.1 (by omega)] at k
  exact xor_inj' ha.1 (by omega) hb.1 (by omega) k

theorem numF_acc (q : List (List Cell)) : ∀ (a : Int), numF a q = a * 256 ^ q.length + numF 0 q := by
  induction q with
  | nil => intro a; simp [numF]
  | cons r q ih =>
    intro a
    have e : (256 : Int) ^ (q.length + 1) = 256 ^ q.length * 256 := Int.pow_succ _ _
    rw [numF, numF, ih (a * 256 + nr r 0), ih (0 * 256 + nr r 0), List.length_cons, e, Int.add_mul, Int.add_mul, Int.mul_assoc, Int.mul_comm 256 (256 ^ q.length)]
    simp only [Int.zero_mul, Int.zero_add]
    omega
theorem numF_one {p q : List (List Cell)} {a b : List Cell} (h : numF 0 (p ++ (a :: q)) = numF 0 (p ++ (b :: q))) : nr a 0 = nr b 0 := by
  rw [numF_app, numF_app] at h
  simp only [numF] at h
  rw [numF_acc q (numF 0 p * 256 + nr a 0), numF_acc q (numF 0 p * 256 + nr b 0)] at h
  have hp : (0 : Int) < 256 ^ q.length := Int.pow_pos (by decide)
  have h2 : (numF 0 p * 256 + nr a 0) * 256 ^ q.length = (numF 0 p * 256 + nr b 0) * 256 ^ q.length := by omega
  have := Int.eq_of_mul_eq_mul_right (Int.ne_of_gt hp) h2
  omega

/-- a record whose parts are given -/
theorem recB_raw {g o : Int} {x t rest : List (List Cell)} {e : List Cell} (h1 : 1 ≤ x.length) (h2 : x.length ≤ 30000) (ht : t.length = 4) :
    recB g o ([.int .u8 229] :: (bigF 4 x.length ++ (x ++ (t ++ (e :: rest))))) = (x, decide (numF 0 t = wSum g o x) && decide (nr e 0 = 255)) := by
  have b1 := bigF_len 4 (x.length : Int)
  generalize hb : ([Cell.int .u8 229] :: (bigF 4 x.length ++ (x ++ (t ++ (e :: rest))))) = b
  have hl : b.length = x.length + 10 + rest.length := by
    rw [← hb]
    simp only [List.length_cons, List.length_append, b1, ht]; omega
  have e1 : wNum b 1 5 = x.length := by
    unfold wNum
    have := sub_at [[Cell.int .u8 229]] (bigF 4 x.length) (x ++ (t ++ (e :: rest))) (i := 1) (j := 5) rfl (by rw [b1]; rfl)
    rw [List.singleton_append, hb] at this
    rw [this, numF_big 4 0 _ (by omega) (by rw [show (256 : Int) ^ 4 = 4294967296 by decide]; omega)]
    omega
  have e2 : subL b 5 (5 + x.length) = x := by
    have := sub_at ([Cell.int .u8 229] :: bigF 4 x.length) x (t ++ (e :: rest)) (i := 5) (j := 5 + x.length) (by rw [List.length_cons, b1]) (by rw [List.length_cons, b1])
    rwa [List.cons_append, hb] at this
  have e3 : wNum b (5 + x.length) (9 + x.length) = numF 0 t := by
    unfold wNum
    have := sub_at ([Cell.int .u8 229] :: (bigF 4 x.length ++ x)) t (e :: rest) (i := 5 + x.length) (j := 9 + x.length) (by rw [List.length_cons, List.length_append, b1]; omega) (by rw [List.length_cons, List.length_append, b1, ht]; omega)
    rw [List.cons_append, List.append_assoc, hb] at this
    rw [this]
  have e4 : Abs.rowAt b (9 + x.length) = e := by
    have hd := drop_cons b (9 + x.length) (by omega)
    have e5 : b = ([Cell.int .u8 229] :: (bigF 4 x.length ++ (x ++ t))) ++ (e :: rest) := by rw [← hb]; simp
    have e6 : b.drop (9 + x.length) = e :: rest := by
      rw [e5, List.drop_append, List.drop_eq_nil_of_le (by simp [b1, ht]; omega), List.nil_append]
      have : 9 + x.length - ([Cell.int .u8 229] :: (bigF 4 x.length ++ (x ++ t))).length = 0 := by simp [b1, ht]; omega
      rw [this]; rfl
    rw [hd] at e6
    exact (List.cons.inj e6).1
  have e7 : nr (Abs.rowAt b 0) 0 = 229 := by rw [← hb]; rfl
  unfold recB
  rw [if_neg (by rw [e7]; omega), e1, if_neg (by omega), Int.toNat_natCast, e2, e3, e4]

theorem split_at {x : List (List Cell)} {i : Nat} (h : i < x.length) : x = x.take i ++ (Abs.rowAt x i :: x.drop (i + 1)) := by
  rw [← drop_cons x i h, List.take_append_drop]
theorem over_one {x : List (List Cell)} {i : Nat} (c : List Cell) : overL x i [c] = x.take i ++ (c :: x.drop (i + 1)) := by
  rw [overL_eq]; rfl
theorem row_app_left {a b : List (List Cell)} {i : Nat} (h : i < a.length) : Abs.rowAt (a ++ b) i = Abs.rowAt a i := by
  have h1 := drop_cons (a ++ b) i (by rw [List.length_append]; omega)
  rw [List.drop_append_of_le_length (by omega), drop_cons a i h] at h1
  exact (List.cons.inj h1).1.symm
theorem row_app_right {a b : List (List Cell)} {i : Nat} (h : a.length ≤ i) (hi : i < a.length + b.length) : Abs.rowAt (a ++ b) i = Abs.rowAt b (i - a.length) := by
  have h1 := drop_cons (a ++ b) i (by rw [List.length_append]; omega)
  rw [List.drop_append, List.drop_eq_nil_of_le h, List.nil_append, drop_cons b (i - a.length) (by omega)] at h1
  exact (List.cons.inj h1).1.symm
theorem over_app_left {a b y : List (List Cell)} {i : Nat} (h : i + y.length ≤ a.length) : overL (a ++ b) i y = overL a i y ++ b := by
  rw [overL_eq, overL_eq, List.take_append_of_le_length (by omega), List.drop_append_of_le_length (by omega)]
  simp
theorem over_app_right {a b y : List (List Cell)} {i : Nat} (h : a.length ≤ i) : overL (a ++ b) i y = a ++ overL b (i - a.length) y := by
  rw [overL_eq, overL_eq, List.take_append, List.take_of_length_le h, List.drop_append, List.drop_eq_nil_of_le (by omega), List.nil_append, List.append_assoc]
  congr 4
  omega

/-- a record with one byte of it changed is none -/
theorem recB_bad {g o : Int} {x rest : List (List Cell)} (hx : okB x = true) (h1 : 1 ≤ x.length) (h2 : x.length ≤ 30000) {i : Nat} (hi : i = 0 ∨ 5 ≤ i) (hl : i < x.length + 10) {v : Int} (hv : 0 ≤ v ∧ v < 256) (hn : v ≠ nr (Abs.rowAt (wEnc g o x) i) 0) :
    (recB g o (overL (wEnc g o x) i [[.int .u8 v]] ++ rest)).2 = false := by
  have b1 := bigF_len 4 (x.length : Int)
  have b2 := bigF_len 4 (wSum g o x)
  have hw := wSum_range g o x
  have e0 : wEnc g o x = [Cell.int .u8 229] :: (bigF 4 x.length ++ (x ++ (bigF 4 (wSum g o x) ++ [[.int .u8 255]]))) := rfl
  have nv : nr [Cell.int .u8 v] 0 = v := rfl
  rcases hi with rfl | hi
  · rw [e0] at hn ⊢
    have hn : v ≠ 229 := hn
    rw [over_one]
    unfold recB
    rw [if_pos]
    right
    exact hn
  -- behind the mark and the length
  have e1 : wEnc g o x = ([Cell.int .u8 229] :: bigF 4 x.length) ++ (x ++ (bigF 4 (wSum g o x) ++ [[.int .u8 255]])) := rfl
  have l1 : ([Cell.int .u8 229] :: bigF 4 x.length).length = 5 := by rw [List.length_cons, b1]
  rw [e1] at hn ⊢
  rw [row_app_right (by omega) (by simp only [List.length_append, List.length_cons, List.length_nil, b1, b2]; omega), l1] at hn
  rw [over_app_right (by omega), l1]
  generalize hj : i - 5 = j at *
  by_cases c1 : j < x.length
  · rw [row_app_left c1] at hn
    rw [over_app_left (by simp; omega)]
    have hx2 : okB (overL x j [[.int .u8 v]]) = true := okB_over hx (by simp only [okB, List.all_cons, List.all_nil, isByte, Bool.and_true, Bool.and_eq_true, decide_eq_true_eq]; omega) _
    have hxl : (overL x j [[.int .u8 v]]).length = x.length := overL_len (by simp; omega)
    have ho := over_one (x := x) (i := j) [.int .u8 v]
    have hs := split_at c1
    generalize overL x j [[.int .u8 v]] = x2 at *
    have := recB_raw (g := g) (o := o) (x := x2) (t := bigF 4 (wSum g o x)) (e := [.int .u8 255]) (rest := rest) (by omega) (by omega) b2
    rw [hxl] at this
    have ea : ([Cell.int .u8 229] :: bigF 4 x.length) ++ (x2 ++ (bigF 4 (wSum g o x) ++ [[Cell.int .u8 255]])) ++ rest = [Cell.int .u8 229] :: (bigF 4 x.length ++ (x2 ++ (bigF 4 (wSum g o x) ++ ([.int .u8 255] :: rest)))) := by simp
    rw [ea, this]
    have hd : numF 0 (bigF 4 (wSum g o x)) = wSum g o x := by
      rw [numF_big 4 0 _ hw.1 (by rw [show (256 : Int) ^ 4 = 4294967296 by decide]; exact hw.2)]; omega
    rw [hd]
    have : ¬ wSum g o x = wSum g o x2 := by
      intro hc
      unfold wSum at hc
      rw [hxl, ho] at hc
      have hc2 : crcS ((bigF 8 g ++ (bigF 4 o ++ (bigF 4 x.length ++ x.take j))) ++ (Abs.rowAt x j :: x.drop (j + 1))) = crcS ((bigF 8 g ++ (bigF 4 o ++ (bigF 4 x.length ++ x.take j))) ++ ([Cell.int .u8 v] :: x.drop (j + 1))) := by
        simp only [List.append_assoc]
        rw [← hs]
        exact hc
      exact hn (crcS_one (b := [Cell.int .u8 v]) (okB_at hx c1) hv hc2).symm
    rw [decide_eq_false this]
    rfl
  rw [row_app_right (by omega) (by simp only [List.length_append, List.length_cons, List.length_nil, b2]; omega)] at hn
  rw [over_app_right (by omega)]
  generalize hk : j - x.length = k at *
  by_cases c2 : k < 4
  · rw [row_app_left (by omega)] at hn
    rw [over_app_left (by simp [b2]; omega)]
    have hs := split_at (x := bigF 4 (wSum g o x)) (i := k) (by omega)
    have ho := over_one (x := bigF 4 (wSum g o x)) (i := k) [.int .u8 v]
    have htl : (overL (bigF 4 (wSum g o x)) k [[.int .u8 v]]).length = 4 := by rw [overL_len (by simp [b2]; omega), b2]
    have hd : numF 0 (bigF 4 (wSum g o x)) = wSum g o x := by
      rw [numF_big 4 0 _ hw.1 (by rw [show (256 : Int) ^ 4 = 4294967296 by decide]; exact hw.2)]; omega
    generalize overL (bigF 4 (wSum g o x)) k [[.int .u8 v]] = t at *
    have := recB_raw (g := g) (o := o) (x := x) (t := t) (e := [.int .u8 255]) (rest := rest) h1 h2 htl
    have ea : ([Cell.int .u8 229] :: bigF 4 x.length) ++ (x ++ (t ++ [[Cell.int .u8 255]])) ++ rest = [Cell.int .u8 229] :: (bigF 4 x.length ++ (x ++ (t ++ ([.int .u8 255] :: rest)))) := by simp
    rw [ea, this]
    have : ¬ numF 0 t = wSum g o x := by
      intro hc
      rw [← hd, ho] at hc
      conv at hc => rhs; rw [hs]
      exact hn (numF_one hc)
    rw [decide_eq_false this]
    rfl
  · have hk4 : k = 4 := by omega
    subst hk4
    rw [row_app_right (by omega) (by simp [b2]), b2] at hn
    rw [over_app_right (by omega), b2]
    have hn : v ≠ 255 := hn
    have ho : overL [[Cell.int .u8 255]] (4 - 4) [[.int .u8 v]] = [[.int .u8 v]] := rfl
    rw [ho]
    have := recB_raw (g := g) (o := o) (x := x) (t := bigF 4 (wSum g o x)) (e := [.int .u8 v]) (rest := rest) h1 h2 b2
    have ea : ([Cell.int .u8 229] :: bigF 4 x.length) ++ (x ++ (bigF 4 (wSum g o x) ++ [[Cell.int .u8 v]])) ++ rest = [Cell.int .u8 229] :: (bigF 4 x.length ++ (x ++ (bigF 4 (wSum g o x) ++ ([.int .u8 v] :: rest)))) := by simp
    rw [ea, this]
    have : ¬ nr [Cell.int .u8 v] 0 = 255 := hn
    rw [decide_eq_false this, Bool.and_false]

theorem xor8_range (a b : Int) : 0 ≤ xorI .u8 a b ∧ xorI .u8 a b < 256 := by
  unfold xorI
  rw [wrapu8_eq]
  omega
theorem xor8_ne {a b : Int} (h0 : 0 ≤ a) (h1 : a < 256) (hb0 : 0 ≤ b) (hb1 : b < 256) (hb : b ≠ 0) : xorI .u8 a b ≠ a := by
  intro h
  unfold xorI at h
  have hlt := (BitVec.ofInt 8 a ^^^ BitVec.ofInt 8 b).isLt
  have e : IntKind.u8.bits = 8 := rfl
  rw [e, wrapu8_eq] at h
  obtain ⟨n, rfl⟩ := Int.eq_ofNat_of_zero_le h0
  obtain ⟨m, rfl⟩ := Int.eq_ofNat_of_zero_le hb0
  rw [BitVec.ofInt_natCast, BitVec.ofInt_natCast] at h hlt
  have e2 : ((BitVec.ofNat 8 n) ^^^ (BitVec.ofNat 8 m)).toNat = (BitVec.ofNat 8 n).toNat := by
    rw [BitVec.toNat_ofNat, Nat.mod_eq_of_lt (by omega)]
    omega
  have e3 := BitVec.eq_of_toNat_eq e2
  have e4 : BitVec.ofNat 8 m = 0#8 := by
    have := congrArg (BitVec.ofNat 8 n ^^^ ·) e3
    simpa [← BitVec.xor_assoc] using this
  have e5 := congrArg BitVec.toNat e4
  rw [BitVec.toNat_ofNat, Nat.mod_eq_of_lt (by omega)] at e5
  simp at e5
  omega

end Go.Proofs.Ytpafnokcmhlbgaa
