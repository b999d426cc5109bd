/-
  The contracts of the checksum, of headers and of records.
-/
import Derived.Test.YtpafnokcmhlbgaaW1
namespace Go.Proofs.Ytpafnokcmhlbgaa
open Go.Abs

/- CHECKSUMS -/

theorem crcBits_succ (k : Nat) (c : Int) : crcBits (k + 1) c = crcBits k (crcBit c) := rfl

theorem l73_1 (m : Nat) (x : List (List Cell)) (n i : Int) : ∀ (d : Nat) (c t : Int), 0 ≤ t → t + d = 8 → goF E (callOf L72) F73 0 (m + (d + 1)) P73_1 (M73_1 c x n i t) = goF E (callOf L72) F73 0 m P73_0 (M73_0 (crcBits d c) x n (IntKind.wrap .i64 (i + 1)))
  | 0, c, t, h0, h => by
    rw [show m + (0 + 1) = m + 1 from rfl, e73_1]
    exact cf (decide_eq_false (by omega)) rfl
  | d + 1, c, t, h0, h => by
    have ih := l73_1 m x n i d (crcBit c) (t + 1) (by omega) (by omega)
    rw [show m + (d + 1 + 1) = (m + (d + 1)) + 1 from rfl, e73_1, wrap64 (n := t + 1) (by omega) (by omega), crcBits_succ, ← ih]
    refine ct (decide_eq_true (by omega)) ?_
    unfold crcBit
    cases ((andI .u32 c 1) != 0) <;> rfl

theorem l73_0 (x : List (List Cell)) (hx : x.length ≤ 1000000) : ∀ (d i : Nat) (c : Int), i + d = x.length → ∃ m, goF E (callOf L72) F73 0 m P73_0 (M73_0 c x x.length i) = some ([.one (.int .u32 (xorI .u32 4294967295 (crcF c (x.drop i))))], [])
  | 0, i, c, h => by
    refine ⟨1, ?_⟩
    rw [e73_0, List.drop_eq_nil_of_le (by omega)]
    exact cf (decide_eq_false (by omega)) rfl
  | d + 1, i, c, h => by
    obtain ⟨m, hm⟩ := l73_0 x hx d (i + 1) (crcBits 8 (xorI .u32 c (IntKind.wrap .u32 (nr (Abs.rowAt x i) 0)))) (by omega)
    refine ⟨m + 9 + 1, ?_⟩
    rw [e73_0, drop_cons x i (by omega), Int.toNat_natCast]
    refine ct (decide_eq_true (by omega)) (ct (inB_nat' (by omega)) ?_)
    rw [l73_1 m x _ _ 8 _ 0 (by omega) (by omega), wrap64 (by omega) (by omega)]
    exact hm

theorem k73 (x : List (List Cell)) (hx : x.length ≤ 1000000) : ∃ m, runF E (callOf L72) m 73 [.one (.sl false 5 x)] [] = some ([.one (.int .u32 (crcS x))], []) := by
  obtain ⟨m, hm⟩ := l73_0 x hx x.length 0 4294967295 (by omega)
  exact ⟨m + 1, by rw [e73]; exact hm⟩

theorem l73_1c (m : Nat) (x : List (List Cell)) (q : Nat) (n i : Int) : ∀ (d : Nat) (c t : Int), 0 ≤ t → t + d = 8 → goF E (callOf L72) F73 1 (m + (d + 1)) P73_1_c1 (M73_1_c1 c q n i t x) = goF E (callOf L72) F73 1 m P73_0_c1 (M73_0_c1 (crcBits d c) q n (IntKind.wrap .i64 (i + 1)) x)
  | 0, c, t, h0, h => by
    rw [show m + (0 + 1) = m + 1 from rfl, e73_1_c1]
    exact cf (decide_eq_false (by omega)) rfl
  | d + 1, c, t, h0, h => by
    have ih := l73_1c m x q n i d (crcBit c) (t + 1) (by omega) (by omega)
    rw [show m + (d + 1 + 1) = (m + (d + 1)) + 1 from rfl, e73_1_c1, wrap64 (n := t + 1) (by omega) (by omega), crcBits_succ, ← ih]
    refine ct (decide_eq_true (by omega)) ?_
    unfold crcBit
    cases ((andI .u32 c 1) != 0) <;> rfl

theorem l73_0c (x : List (List Cell)) (hx : x.length ≤ 1000000) : ∀ (d i : Nat) (c : Int), i + d = x.length → ∃ m, goF E (callOf L72) F73 1 m P73_0_c1 (M73_0_c1 c x.length x.length i x) = some ([.one (.int .u32 (xorI .u32 4294967295 (crcF c (x.drop i))))], [.arr 5 x])
  | 0, i, c, h => by
    refine ⟨1, ?_⟩
    rw [e73_0_c1, List.drop_eq_nil_of_le (by omega)]
    exact cf (decide_eq_false (by omega)) rfl
  | d + 1, i, c, h => by
    obtain ⟨m, hm⟩ := l73_0c x hx d (i + 1) (crcBits 8 (xorI .u32 c (IntKind.wrap .u32 (nr (Abs.rowAt x i) 0)))) (by omega)
    refine ⟨m + 9 + 1, ?_⟩
    rw [e73_0_c1, drop_cons x i (by omega), Int.toNat_natCast]
    refine ct (decide_eq_true (by omega)) (ct (inB_nat' (by omega)) (ct (nblt_of (by omega)) ?_))
    rw [l73_1c m x _ _ _ 8 _ 0 (by omega) (by omega), wrap64 (by omega) (by omega)]
    exact hm

theorem k73b (n : Nat) (x : List (List Cell)) (hx : x.length ≤ 1000000) (hn : n = x.length) : ∃ m, runF E (callOf L72) m 73 [.one (.msl 5 0 n)] [.arr 5 x] = some ([.one (.int .u32 (crcS x))], [.arr 5 x]) := by
  subst hn
  obtain ⟨m, hm⟩ := l73_0c x hx x.length 0 4294967295 (by omega)
  exact ⟨m + 1, by rw [e73_c1]; exact hm⟩

theorem l73_1d (m : Nat) (x : List (List Cell)) (lo q c0 : Nat) (n i : Int) : ∀ (d : Nat) (c t : Int), 0 ≤ t → t + d = 8 → goF E (callOf L72) F73 1 (m + (d + 1)) P73_1_c2 (M73_1_c2 c lo q c0 n i t x) = goF E (callOf L72) F73 1 m P73_0_c2 (M73_0_c2 (crcBits d c) lo q c0 n (IntKind.wrap .i64 (i + 1)) x)
  | 0, c, t, h0, h => by
    rw [show m + (0 + 1) = m + 1 from rfl, e73_1_c2]
    exact cf (decide_eq_false (by omega)) rfl
  | d + 1, c, t, h0, h => by
    have ih := l73_1d m x lo q c0 n i d (crcBit c) (t + 1) (by omega) (by omega)
    rw [show m + (d + 1 + 1) = (m + (d + 1)) + 1 from rfl, e73_1_c2, wrap64 (n := t + 1) (by omega) (by omega), crcBits_succ, ← ih]
    refine ct (decide_eq_true (by omega)) ?_
    unfold crcBit
    cases ((andI .u32 c 1) != 0) <;> rfl

theorem l73_0d (x : List (List Cell)) (lo n c0 : Nat) (hn : n ≤ 1000000) (hx : lo + n ≤ x.length) : ∀ (d i : Nat) (c : Int), i + d = n → ∃ m, goF E (callOf L72) F73 1 m P73_0_c2 (M73_0_c2 c lo n c0 n i x) = some ([.one (.int .u32 (xorI .u32 4294967295 (crcF c ((subL x lo (lo + n)).drop i))))], [.arr 5 x])
  | 0, i, c, h => by
    refine ⟨1, ?_⟩
    rw [e73_0_c2, List.drop_eq_nil_of_le (by rw [subL_len hx]; omega)]
    exact cf (decide_eq_false (by omega)) rfl
  | d + 1, i, c, h => by
    obtain ⟨m, hm⟩ := l73_0d x lo n c0 hn hx d (i + 1) (crcBits 8 (xorI .u32 c (IntKind.wrap .u32 (nr (Abs.rowAt x (lo + i)) 0)))) (by omega)
    refine ⟨m + 9 + 1, ?_⟩
    have e : Abs.rowAt (subL x lo (lo + n)) i = Abs.rowAt x (lo + i) := by rw [subL_eq, rowAt_drop, rowAt_take _ _ _ (by omega)]
    rw [e73_0_c2, drop_cons _ i (by rw [subL_len hx]; omega), Int.toNat_natCast, e]
    refine ct (decide_eq_true (by omega)) (ct (inB_nat' (by omega)) (ct (nblt_of (by omega)) ?_))
    rw [l73_1d m x _ _ _ _ _ 8 _ 0 (by omega) (by omega), wrap64 (by omega) (by omega)]
    exact hm

theorem k73c (lo n c : Nat) (x : List (List Cell)) (hx : lo + n ≤ x.length) (hn : n ≤ 1000000) : ∃ m, runF E (callOf L72) m 73 [.one (.win 5 0 lo n (some c))] [.arr 5 x] = some ([.one (.int .u32 (crcS (subL x lo (lo + n))))], [.arr 5 x]) := by
  obtain ⟨m, hm⟩ := l73_0d x lo n c hn hx n 0 4294967295 (by omega)
  exact ⟨m + 1, by rw [e73_c2]; exact hm⟩

/- NUMBERS -/

theorem or_shl8 {a b : Int} (ha : 0 ≤ a) (ha2 : a < 72057594037927936) (hb : 0 ≤ b) (hb2 : b < 256) : orI .u64 (shlI .u64 a 8) (IntKind.wrap .u64 b) = a * 256 + b := by
  obtain ⟨p, rfl⟩ := Int.eq_ofNat_of_zero_le ha
  obtain ⟨q, rfl⟩ := Int.eq_ofNat_of_zero_le hb
  have e1 : shlI .u64 (p : Int) 8 = ((p * 2 ^ 8 : Nat) : Int) := shl64 (k := 8) (by omega) (by omega)
  rw [e1, wrapu (by omega) (by omega)]
  have e2 := or64 (a := q) (c := p) (k := 8) (by omega) (by omega)
  have e3 : orI .u64 ((p * 2 ^ 8 : Nat) : Int) (q : Int) = orI .u64 (q : Int) ((p * 2 ^ 8 : Nat) : Int) := by
    unfold orI
    rw [BitVec.or_comm]
  rw [e3, e2]
  omega

theorem l71_0 (x : List (List Cell)) (hb : okB x = true) (hx : x.length ≤ 8) : ∀ (d i : Nat) (a : Int), i + d = x.length → 0 ≤ a → a < 256 ^ i → ∃ m, goF E (callOf L73) F71 0 m P71_0 (M71_0 a x x.length i) = some ([.one (.int .u64 (numF a (x.drop i)))], [])
  | 0, i, a, h, h0, h1 => by
    refine ⟨1, ?_⟩
    rw [e71_0, List.drop_eq_nil_of_le (by omega)]
    exact cf (decide_eq_false (by omega)) rfl
  | d + 1, i, a, h, h0, h1 => by
    have hr := okB_at hb (i := i) (by omega)
    have hi : i = 0 ∨ i = 1 ∨ i = 2 ∨ i = 3 ∨ i = 4 ∨ i = 5 ∨ i = 6 ∨ i = 7 := by omega
    have ha7 : a < 72057594037927936 := by rcases hi with rfl | rfl | rfl | rfl | rfl | rfl | rfl | rfl <;> omega
    obtain ⟨m, hm⟩ := l71_0 x hb hx d (i + 1) (a * 256 + nr (Abs.rowAt x i) 0) (by omega) (by omega) (by rw [Int.pow_succ]; omega)
    refine ⟨m + 1, ?_⟩
    rw [e71_0, drop_cons x i (by omega), Int.toNat_natCast]
    refine ct (decide_eq_true (by omega)) (ct (inB_nat' (by omega)) ?_)
    rw [or_shl8 h0 ha7 hr.1 hr.2, wrap64 (by omega) (by omega)]
    exact hm

theorem k71 (x : List (List Cell)) (hb : okB x = true) (hx : x.length ≤ 8) : ∃ m, runF E (callOf L73) m 71 [.one (.sl false 5 x)] [] = some ([.one (.int .u64 (numF 0 x))], []) := by
  obtain ⟨m, hm⟩ := l71_0 x hb hx x.length 0 0 (by omega) (by omega) (by simp)
  exact ⟨m + 1, by rw [e71]; exact hm⟩

/- HEADERS -/

theorem wMag_eq : wMag = [[Cell.int .u8 69], [Cell.int .u8 83], [Cell.int .u8 76], [Cell.int .u8 49]] := by
  simp [wMag, ofBytes, byteRow]
theorem wMag_okB : okB wMag = true := by rw [wMag_eq]; decide
theorem wMag_len : wMag.length = 4 := by rw [wMag_eq]; rfl
theorem wHdr_len (g : Int) : (wHdr g).length = 32 := by simp [wHdr, bigF_len, wMag_len]
theorem wHdr_okB (g : Int) : okB (wHdr g) = true := okB_app wMag_okB (okB_app (bigF_okB _ _) (okB_app (bigF_okB _ _) (okB_rep 16)))

theorem k51 (g : Int) (hg : okV g = true) : runF E (callOf L71) 1 51 [.one (.int .u64 g)] [] = some ([.one (.sl false 5 (wHdr g))], []) := by
  rw [e51]
  dsimp only
  rw [← wMag_eq, show Int.toNat 8 = 8 from rfl, show Int.toNat 4 = 4 from rfl]
  have hcr := crcS_range (wMag ++ bigF 8 g)
  have hlen : (wMag ++ bigF 8 g).length = 12 := by simp [wMag_len, bigF_len]
  have hok : okB (wMag ++ bigF 8 g) = true := okB_app wMag_okB (bigF_okB _ _)
  rw [wrapu (n := crcS (wMag ++ bigF 8 g)) (by omega) (by omega)]
  have hb4 := bigF_len 4 (crcS (wMag ++ bigF 8 g))
  have hw : IntKind.wrap .i64 (32 - (((wMag ++ bigF 8 g).length : Int) + ((4 : Nat) : Int))) = 16 := by rw [hlen]; rfl
  rw [hw]
  have h16 : Int.toNat 16 = 16 := rfl
  rw [h16]
  refine ct (and_mk hg (and_mk rfl (and_mk (nbeq_of wMag_len.symm) (pd_t (by rw [wMag_len]; omega))))) ?_
  refine ct (and_mk (and_mk hok (pd_t (by omega))) (nbeq_of (by rw [wMag_len, hlen]))) ?_
  refine ct (and_mk (okV_mk (by omega) (by omega)) (and_mk rfl (and_mk (nbeq_of (by rw [wMag_len, hlen])) (pd_t (by omega))))) ?_
  have hl4 : ((wMag ++ bigF 8 g) ++ bigF 4 (crcS (wMag ++ bigF 8 g))).length = 16 := by rw [List.length_append, hb4, hlen]
  refine ct (nbeq_of (by rw [hl4, hlen])) (ct (okMake_mk (by omega) (by omega)) (ct (fits_mk (by rw [hl4]; omega)) (ct (nbeq_of (by rw [List.length_append (bs := List.replicate _ _), List.length_replicate])) ?_)))
  simp only [wHdr, List.append_assoc]

theorem wNum_range {b : List (List Cell)} (hb : okB b = true) {i j : Nat} (hj : j ≤ b.length) (hij : j - i ≤ 8) : 0 ≤ wNum b i j ∧ wNum b i j < 256 ^ (j - i) := by
  have h := numF_bound (subL b i j) 0 (okB_sub hb i j) (by omega)
  rw [subL_len hj] at h
  unfold wNum
  omega

theorem pow8 : (256 : Int) ^ 8 = 18446744073709551616 := by decide
theorem pow4 : (256 : Int) ^ 4 = 4294967296 := by decide

theorem k46 (x : List (List Cell)) (hb : okB x = true) (hx : x.length = 32) : runF E (callOf L51) 1 46 [.one (.sl false 5 x)] [] = some ([.one (.int .u64 (wGen x))], []) := by
  rw [e46]
  have hr := wNum_range hb (i := 4) (j := 12) (by omega) (by omega)
  rw [show (12 - 4 : Nat) = 8 from rfl, pow8] at hr
  refine cf (by simp [hx]) (ct (inB_le (by omega) (by omega)) (ct (and_mk (okB_sub hb _ _) (pd_t (by rw [subL_len (by omega)]; omega))) (ct (okV_mk hr.1 hr.2) ?_)))
  unfold wGen
  by_cases h : toBytes (wHdr (wNum x 4 12)) = toBytes x
  · rw [if_pos h]
    exact cf (by simpa [wNum] using h) rfl
  · rw [if_neg h]
    exact ct (by simpa [wNum] using h) rfl

/- RECORDS -/

theorem rep_len (n : Nat) : (List.replicate n [Cell.int .u8 0]).length = n := List.length_replicate

theorem k77 (g o : Int) (x : List (List Cell)) (hg : okV g = true) (ho0 : 0 ≤ o) (ho : o ≤ 4611686018427387904) (hb : okB x = true) (hx : x.length ≤ 30000) : runF E (callOf L46) 1 77 [.one (.int .u64 g), .one (.int .i64 o), .one (.sl false 5 x)] [] = some ([.one (.int .u32 (wSum g o x))], []) := by
  rw [e77]
  dsimp only
  rw [show Int.toNat 8 = 8 from rfl, show Int.toNat 4 = 4 from rfl]
  simp only [Nat.zero_add, Nat.reduceAdd]
  rw [wrapu (n := o) (by omega) (by omega), wrapu (n := (x.length : Int)) (by omega) (by omega)]
  have hR := rep_len 30016
  generalize List.replicate 30016 [Cell.int .u8 0] = R at hR
  have l8 := bigF_len 8 g
  have lo4 := bigF_len 4 o
  have ln4 := bigF_len 4 (x.length : Int)
  have e1 : overL (overL R 0 (bigF 8 g)) 8 (bigF 4 o) = overL R 0 (bigF 8 g ++ bigF 4 o) := by
    have := overL_over (x := R) (o := 0) (y := bigF 8 g) (z := bigF 4 o) (by omega)
    rw [l8] at this; exact this
  have e2 : overL (overL R 0 (bigF 8 g ++ bigF 4 o)) 12 (bigF 4 (x.length : Int)) = overL R 0 ((bigF 8 g ++ bigF 4 o) ++ bigF 4 (x.length : Int)) := by
    have := overL_over (x := R) (o := 0) (y := bigF 8 g ++ bigF 4 o) (z := bigF 4 (x.length : Int)) (by rw [List.length_append]; omega)
    rw [List.length_append, l8, lo4] at this; exact this
  have hl1 : (overL R 0 (bigF 8 g)).length = R.length := overL_len (by omega)
  have hl2 : (overL R 0 (bigF 8 g ++ bigF 4 o)).length = R.length := overL_len (by rw [List.length_append]; omega)
  have hl3 : (overL R 0 ((bigF 8 g ++ bigF 4 o) ++ bigF 4 (x.length : Int))).length = R.length := overL_len (by simp only [List.length_append]; omega)
  rw [e1, e2]
  have hmin : minN 30000 x.length = x.length := by
    unfold minN
    cases hc : Nat.ble 30000 x.length with
    | false => rfl
    | true => have := Nat.le_of_ble_eq_true hc; show 30000 = x.length; omega
  have hz : ((0 : Int) + ((8 : Nat) : Int) + ((4 : Nat) : Int) + ((4 : Nat) : Int)) = 16 := rfl
  have ht : (16 : Int).toNat = 16 := rfl
  simp only [hz, ht, Nat.reduceSub, hmin, takeN_eq]
  rw [List.take_of_length_le (Nat.le_refl x.length)]
  have e3 : overL (overL R 0 ((bigF 8 g ++ bigF 4 o) ++ bigF 4 (x.length : Int))) 16 x = overL R 0 (((bigF 8 g ++ bigF 4 o) ++ bigF 4 (x.length : Int)) ++ x) := by
    have := overL_over (x := R) (o := 0) (y := (bigF 8 g ++ bigF 4 o) ++ bigF 4 (x.length : Int)) (z := x) (by simp only [List.length_append]; omega)
    simp only [List.length_append, l8, lo4, ln4] at this; exact this
  rw [e3, wrap64 (by omega) (by omega)]
  have ht2 : (((16 : Int) + (x.length : Int))).toNat = 16 + x.length := by omega
  rw [ht2]
  have hsub : subL (overL R 0 (((bigF 8 g ++ bigF 4 o) ++ bigF 4 (x.length : Int)) ++ x)) 0 (16 + x.length) = ((bigF 8 g ++ bigF 4 o) ++ bigF 4 (x.length : Int)) ++ x := by
    rw [subL_eq, overL_eq, List.take_zero, List.nil_append, List.drop_zero]
    exact List.take_left' (by simp only [List.length_append]; omega)
  refine ct (and_mk hg (and_mk rfl (and_mk (pd_t (by omega)) (and_mk (pd_t (by omega)) (pd_t (by omega)))))) ?_
  refine ct (and_mk (okV_mk (by omega) (by omega)) (and_mk rfl (and_mk (pd_t (by omega)) (and_mk (pd_t (by omega)) (pd_t (by omega)))))) ?_
  refine ct (and_mk (okV_mk (by omega) (by omega)) (and_mk rfl (and_mk (pd_t (by omega)) (and_mk (pd_t (by omega)) (pd_t (by omega)))))) ?_
  refine ct (inB_mk (by omega) (by omega)) (ct (nblt_of (by omega)) (ct (nble_of (by omega)) (ct (inB_mk (by omega) (by omega)) ?_)))
  rw [hsub]
  have hokb : okB (((bigF 8 g ++ bigF 4 o) ++ bigF 4 (x.length : Int)) ++ x) = true := okB_app (okB_app (okB_app (bigF_okB _ _) (bigF_okB _ _)) (bigF_okB _ _)) hb
  refine ct (and_mk (pd_t (by rw [overL_len (by simp only [List.length_append]; omega)]; omega)) (and_mk (by rw [Nat.zero_add, hsub]; exact hokb) (pd_t (by omega)))) ?_
  unfold wSum
  rw [List.append_assoc, List.append_assoc]

end Go.Proofs.Ytpafnokcmhlbgaa
