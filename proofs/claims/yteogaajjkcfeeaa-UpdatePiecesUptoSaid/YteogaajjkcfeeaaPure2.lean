/-
  The contracts of the functions that encode and decode.
-/
import Derived.Test.YteogaajjkcfeeaaPure1
namespace Go.Proofs.Yteogaajjkcfeeaa
open Go.Abs

theorem okStr_of {x : List (List Cell)} {s : List UInt8} (h : okStr x s = true) : x.length ≤ 3000000 ∧ s.length ≤ 100000 := by
  unfold okStr at h
  simpa using h

theorem okStr_mk {x : List (List Cell)} {s : List UInt8} (h1 : x.length ≤ 3000000) (h2 : s.length ≤ 100000) : okStr x s = true := by
  unfold okStr
  simp [h1, h2]

theorem k37 (x : List (List Cell)) (s : List UInt8) (h : okStr x s = true) : runF E (callOf L55) 1 37 [.one (.sl false 5 x), .one (.str s)] [] = some ([.one (.sl true 5 (x ++ senc s))], []) := by
  obtain ⟨h1, h2⟩ := okStr_of h
  have hu := uenc_len (s.length : Int)
  rw [e37, wrapu (n := (s.length : Int)) (by omega) (by omega)]
  refine ct (okEnc_mk (by omega) (by omega) (by omega)) (ct (fits_of (by simp; omega)) ?_)
  rw [List.append_assoc]
  rfl

theorem k42 (x : List (List Cell)) (s : List UInt8) (h : okStr x s = true) : runF E (callOf L37) 1 42 [.one (.sl false 5 x), .one (.str s)] [] = some ([.one (.sl true 5 (x ++ senc s))], []) := by
  obtain ⟨h1, h2⟩ := okStr_of h
  have hu := uenc_len (s.length : Int)
  rw [e42, wrapu (n := (s.length : Int)) (by omega) (by omega)]
  refine ct (okEnc_mk (by omega) (by omega) (by omega)) (ct (fits_of (by simp; omega)) ?_)
  rw [List.append_assoc]
  rfl

theorem k56 (v : Int) (h : okI v = true) : runF E (callOf L42) 1 56 [.one (.int .i64 v)] [] = some ([.one (.int .u64 (zig v))], []) := by
  obtain ⟨h0, h1⟩ := okI_of h
  rw [e56]
  unfold zig
  by_cases hv : 0 ≤ v
  · rw [if_pos hv, wrapu (n := v) (by omega) (by omega), wrapu (n := v * 2) (by omega) (by omega)]
    refine ct (decide_eq_true hv) ?_
    rw [Int.mul_comm]
  · rw [if_neg hv]
    refine cf (decide_eq_false hv) ?_
    rw [wrap64 (n := v + 1) (by omega) (by omega), wrap64 (n := 0 - (v + 1)) (by omega) (by omega), wrapu (n := 0 - (v + 1)) (by omega) (by omega), wrapu (n := (0 - (v + 1)) * 2) (by omega) (by omega), wrapu (by omega) (by omega)]
    rw [show (0 - (v + 1)) * 2 + 1 = -2 * v - 1 by omega]

theorem okLenI {x : List (List Cell)} {v : Int} (h : (okLen x && okI v) = true) : x.length ≤ 4000000 ∧ okI v = true := by
  unfold okLen at h
  simpa using h

theorem k38 (x : List (List Cell)) (v : Int) (h : (okLen x && okI v) = true) : runF E (callOf L56) 1 38 [.one (.sl false 5 x), .one (.int .i64 v)] [] = some ([.one (.sl true 5 (x ++ uenc (zig v)))], []) := by
  obtain ⟨h1, h2⟩ := okLenI h
  have hz := zig_range h2
  rw [e38, zigxor h2]
  exact ct (okEnc_mk h1 hz.1 hz.2) rfl

theorem k43 (x : List (List Cell)) (v : Int) (h : (okLen x && okI v) = true) : runF E (callOf L38) 1 43 [.one (.sl false 5 x), .one (.int .i64 v)] [] = some ([.one (.sl true 5 (x ++ uenc (zig v)))], []) := by
  obtain ⟨h1, h2⟩ := okLenI h
  have hz := zig_range h2
  rw [e43]
  exact ct h2 (ct (okEnc_mk h1 hz.1 hz.2) rfl)

theorem all_at {p : List Cell → Bool} {l : List (List Cell)} (h : l.all p = true) {i : Nat} (hi : i < l.length) : p (Abs.rowAt l i) = true := by
  rw [rowAt_eq hi]
  exact List.all_eq_true.1 h _ (List.getElem_mem hi)

theorem shortR_of {r : List Cell} (h : shortR r = true) : (ns r 1).length ≤ 100 ∧ (ns r 2).length ≤ 100 ∧ (ns r 4).length ≤ 100 ∧ okI (nr r 3) = true := by
  unfold shortR at h
  simpa using h

theorem effEnc_ok {r : List Cell} (h : shortR r = true) {y : List (List Cell)} (hy : y.length ≤ 1100000) :
    okStr (y ++ uenc (IntKind.wrap .u64 (nr r 0))) (ns r 1) = true ∧
    okStr ((y ++ uenc (IntKind.wrap .u64 (nr r 0))) ++ senc (ns r 1)) (ns r 2) = true ∧
    (okLen (((y ++ uenc (IntKind.wrap .u64 (nr r 0))) ++ senc (ns r 1)) ++ senc (ns r 2)) && okI (nr r 3)) = true ∧
    okStr ((((y ++ uenc (IntKind.wrap .u64 (nr r 0))) ++ senc (ns r 1)) ++ senc (ns r 2)) ++ uenc (zig (nr r 3))) (ns r 4) = true ∧ (effEnc r).length ≤ 400 := by
  obtain ⟨h1, h2, h3, h4⟩ := shortR_of h
  have a0 := uenc_len (IntKind.wrap .u64 (nr r 0))
  have a1 := senc_len (ns r 1)
  have a2 := senc_len (ns r 2)
  have a3 := uenc_len (zig (nr r 3))
  have a4 := senc_len (ns r 4)
  refine ⟨okStr_mk ?_ (by omega), okStr_mk ?_ (by omega), ?_, okStr_mk ?_ (by omega), ?_⟩
  · simp only [List.length_append]; omega
  · simp only [List.length_append]; omega
  · unfold okLen
    simp only [Bool.and_eq_true, decide_eq_true_eq, List.length_append]
    exact ⟨by omega, h4⟩
  · simp only [List.length_append]; omega
  · unfold effEnc
    simp only [List.length_append]; omega

theorem effEnc_app (y : List (List Cell)) (r : List Cell) : ((((y ++ uenc (IntKind.wrap .u64 (nr r 0))) ++ senc (ns r 1)) ++ senc (ns r 2)) ++ uenc (zig (nr r 3))) ++ senc (ns r 4) = y ++ effEnc r := by
  unfold effEnc
  simp only [List.append_assoc]

theorem okApp_of {x l : List (List Cell)} (h : okApp x l = true) : x.length ≤ 1000000 ∧ l.length ≤ 100 ∧ l.all shortR = true := by
  unfold okApp at h
  simp only [Bool.and_eq_true, decide_eq_true_eq] at h
  exact h

theorem l24b (x l : List (List Cell)) (hx : x.length ≤ 1000000) (hl : l.length ≤ 100) (hs : l.all shortR = true) : ∀ (d i : Nat) (y : List (List Cell)), i + d = l.length → y.length ≤ 100 + 400 * i →
    ∃ m, goF E (callOf L43) F24 0 m P24_1 (M24_1 x y l l.length i) = some ([.one (.sl true 5 (x ++ (y ++ effsEnc (l.drop i))))], [])
  | 0, i, y, hi, hy => by
    refine ⟨1, ?_⟩
    rw [e24_1]
    have : l.drop i = [] := List.drop_eq_nil_of_le (by omega)
    simp only [takeN_eq, Int.toNat_natCast, List.take_length, this, effsEnc, List.append_nil]
    exact cf (decide_eq_false (by omega)) (ct (inB_nat' (by omega)) (ct (by simp) (ct (fits_of (by omega)) rfl)))
  | d + 1, i, y, hi, hy => by
    have hr := wrapu_range (nr (Abs.rowAt l i) 0)
    obtain ⟨g1, g2, g3, g4, g5⟩ := effEnc_ok (r := Abs.rowAt l i) (all_at hs (by omega)) (y := y) (by omega)
    obtain ⟨m, hm⟩ := l24b x l hx hl hs d (i + 1) (y ++ effEnc (Abs.rowAt l i)) (by omega) (by simp; omega)
    refine ⟨m + 1, ?_⟩
    rw [e24_1, Int.toNat_natCast]
    refine ct (decide_eq_true (by omega)) (ct (inB_nat' (by omega)) (ct (okEnc_mk (by omega) hr.1 hr.2) (ct g1 (ct g2 (ct g3 (ct g4 ?_))))))
    rw [nat_wrap (n := l.length) (by omega) (by omega), effEnc_app, hm, drop_cons l i (by omega), effsEnc, List.append_assoc]

theorem l24a (x l : List (List Cell)) (hx : x.length ≤ 1000000) (hl : l.length ≤ 100) (hs : l.all shortR = true) (c q t : Int) (h : List (List Cell)) (hh : h.length = 4) : ∀ (d i : Nat) (y : List (List Cell)), i + d = 4 → y.length ≤ 10 * i →
    ∃ m, goF E (callOf L43) F24 0 m P24_0 (M24_0 x y h 4 i c q t l) = some ([.one (.sl true 5 (x ++ (y ++ (encL (h.drop i) ++ effsEnc l))))], [])
  | 0, i, y, hi, hy => by
    obtain ⟨m, hm⟩ := l24b x l hx hl hs l.length 0 y (by omega) (by omega)
    refine ⟨m + 1, ?_⟩
    rw [e24_0]
    have : h.drop i = [] := List.drop_eq_nil_of_le (by omega)
    rw [this, encL, List.nil_append]
    exact cf (decide_eq_false (by omega)) hm
  | d + 1, i, y, hi, hy => by
    have hr := wrapu_range (nr (Abs.rowAt h i) 0)
    have hu := uenc_len (IntKind.wrap .u64 (nr (Abs.rowAt h i) 0))
    obtain ⟨m, hm⟩ := l24a x l hx hl hs c q t h hh d (i + 1) (y ++ uenc (IntKind.wrap .u64 (nr (Abs.rowAt h i) 0))) (by omega) (by simp; omega)
    refine ⟨m + 1, ?_⟩
    rw [e24_0, Int.toNat_natCast]
    refine ct (decide_eq_true (by omega)) (ct (inB_nat' (by omega)) (ct (okEnc_mk (by omega) hr.1 hr.2) ?_))
    rw [nat_wrap (n := 4) (by omega) (by omega), hm, drop_cons h i (by omega), encL]
    simp only [List.append_assoc]

theorem k24 (x : List (List Cell)) (c q t : Int) (l : List (List Cell)) (h : okApp x l = true) : ∃ m, runF E (callOf L43) m 24 [.one (.sl false 5 x), .agg [.int .i64 c, .int .i64 q, .int .i64 t, .sl false 23 l]] [] = some ([.one (.sl true 5 (x ++ encU c q t l))], []) := by
  obtain ⟨h1, h2, h3⟩ := okApp_of h
  obtain ⟨m, hm⟩ := l24a x l h1 h2 h3 c q t (headU c q t l.length) rfl 4 0 [] rfl (by simp)
  exact ⟨m + 1, by rw [e24]; exact hm⟩

theorem l24bc (x l : List (List Cell)) (hx : x.length ≤ 1000000) (hl : l.length ≤ 100) (hs : l.all shortR = true) : ∀ (d i : Nat) (y : List (List Cell)), i + d = l.length → y.length ≤ 100 + 400 * i →
    ∃ m, goF E (callOf L43) F24 0 m P24_1_c1 (M24_1_c1 x y l l.length i) = some ([.one (.sl true 5 (x ++ (y ++ effsEnc (l.drop i))))], [])
  | 0, i, y, hi, hy => by
    refine ⟨1, ?_⟩
    rw [e24_1_c1]
    have : l.drop i = [] := List.drop_eq_nil_of_le (by omega)
    simp only [takeN_eq, Int.toNat_natCast, List.take_length, this, effsEnc, List.append_nil]
    exact cf (decide_eq_false (by omega)) (ct (inB_nat' (by omega)) (ct (by simp) (ct (fits_of (by omega)) rfl)))
  | d + 1, i, y, hi, hy => by
    have hr := wrapu_range (nr (Abs.rowAt l i) 0)
    obtain ⟨g1, g2, g3, g4, g5⟩ := effEnc_ok (r := Abs.rowAt l i) (all_at hs (by omega)) (y := y) (by omega)
    obtain ⟨m, hm⟩ := l24bc x l hx hl hs d (i + 1) (y ++ effEnc (Abs.rowAt l i)) (by omega) (by simp; omega)
    refine ⟨m + 1, ?_⟩
    rw [e24_1_c1, Int.toNat_natCast]
    refine ct (decide_eq_true (by omega)) (ct (inB_nat' (by omega)) (ct (okEnc_mk (by omega) hr.1 hr.2) (ct g1 (ct g2 (ct g3 (ct g4 ?_))))))
    rw [nat_wrap (n := l.length) (by omega) (by omega), effEnc_app, hm, drop_cons l i (by omega), effsEnc, List.append_assoc]

theorem l24ac (x l : List (List Cell)) (hx : x.length ≤ 1000000) (hl : l.length ≤ 100) (hs : l.all shortR = true) (c q t : Int) (h : List (List Cell)) (hh : h.length = 4) : ∀ (d i : Nat) (y : List (List Cell)), i + d = 4 → y.length ≤ 10 * i →
    ∃ m, goF E (callOf L43) F24 0 m P24_0_c1 (M24_0_c1 x y h 4 i c q t l) = some ([.one (.sl true 5 (x ++ (y ++ (encL (h.drop i) ++ effsEnc l))))], [])
  | 0, i, y, hi, hy => by
    obtain ⟨m, hm⟩ := l24bc x l hx hl hs l.length 0 y (by omega) (by omega)
    refine ⟨m + 1, ?_⟩
    rw [e24_0_c1]
    have : h.drop i = [] := List.drop_eq_nil_of_le (by omega)
    rw [this, encL, List.nil_append]
    exact cf (decide_eq_false (by omega)) hm
  | d + 1, i, y, hi, hy => by
    have hr := wrapu_range (nr (Abs.rowAt h i) 0)
    have hu := uenc_len (IntKind.wrap .u64 (nr (Abs.rowAt h i) 0))
    obtain ⟨m, hm⟩ := l24ac x l hx hl hs c q t h hh d (i + 1) (y ++ uenc (IntKind.wrap .u64 (nr (Abs.rowAt h i) 0))) (by omega) (by simp; omega)
    refine ⟨m + 1, ?_⟩
    rw [e24_0_c1, Int.toNat_natCast]
    refine ct (decide_eq_true (by omega)) (ct (inB_nat' (by omega)) (ct (okEnc_mk (by omega) hr.1 hr.2) ?_))
    rw [nat_wrap (n := 4) (by omega) (by omega), hm, drop_cons h i (by omega), encL]
    simp only [List.append_assoc]

theorem k24c (c q t : Int) (l : List (List Cell)) (h : okApp [] l = true) : ∃ m, runF E (callOf L43) m 24 [.one .nils, .agg [.int .i64 c, .int .i64 q, .int .i64 t, .sl false 23 l]] [] = some ([.one (.sl true 5 (encU c q t l))], []) := by
  obtain ⟨h1, h2, h3⟩ := okApp_of h
  obtain ⟨m, hm⟩ := l24ac [] l h1 h2 h3 c q t (headU c q t l.length) rfl 4 0 [] rfl (by simp)
  exact ⟨m + 1, by rw [e24_c1]; exact hm⟩

theorem l26 (l : List (List Cell)) (hl : l.length ≤ 100) (hs : l.all shortR = true) (c q t : Int) : ∀ (d i : Nat) (y : List (List Cell)), i + d = l.length → y.length ≤ 1000100 + 400 * i →
    ∃ m, goF E (callOf L41) F26 0 m P26_0 (M26_0 y i c q t l) = some ([.one (.sl false 5 (y ++ effsEnc (l.drop i)))], [])
  | 0, i, y, hi, hy => by
    refine ⟨1, ?_⟩
    rw [e26_0]
    have : l.drop i = [] := List.drop_eq_nil_of_le (by omega)
    rw [this, effsEnc, List.append_nil]
    exact cf (decide_eq_false (by omega)) rfl
  | d + 1, i, y, hi, hy => by
    obtain ⟨g1, g2, g3, g4, g5⟩ := effEnc_ok (r := Abs.rowAt l i) (all_at hs (by omega)) (y := y) (by omega)
    obtain ⟨m, hm⟩ := l26 l hl hs c q t d (i + 1) (y ++ effEnc (Abs.rowAt l i)) (by omega) (by simp; omega)
    refine ⟨m + 1, ?_⟩
    have e1 : encL [[Cell.int .i64 (nr (Abs.rowAt l i) 0)]] = uenc (IntKind.wrap .u64 (nr (Abs.rowAt l i) 0)) := by
      rw [encL, encL, List.append_nil]
      rfl
    rw [e26_0, Int.toNat_natCast, e1]
    refine ct (decide_eq_true (by omega)) (ct (inB_nat' (by omega)) (ct (okNums_mk (by omega) (by simp)) (ct g1 (ct g2 (ct g3 (ct g4 ?_))))))
    rw [nat_wrap (n := l.length) (by omega) (by omega), effEnc_app, hm, drop_cons l i (by omega), effsEnc, List.append_assoc]

theorem k26 (x : List (List Cell)) (c q t : Int) (l : List (List Cell)) (h : okApp x l = true) : ∃ m, runF E (callOf L41) m 26 [.one (.sl false 5 x), .agg [.int .i64 c, .int .i64 q, .int .i64 t, .sl false 23 l]] [] = some ([.one (.sl false 5 (x ++ encU c q t l))], []) := by
  obtain ⟨h1, h2, h3⟩ := okApp_of h
  have hu := encL_len (headU c q t l.length)
  have h4 : (headU c q t l.length).length = 4 := rfl
  obtain ⟨m, hm⟩ := l26 l h2 h3 c q t l.length 0 (x ++ encL (headU c q t l.length)) (by omega) (by simp; omega)
  refine ⟨m + 1, ?_⟩
  rw [e26]
  refine ct (okNums_mk (by omega) (by simp)) (Eq.trans hm ?_)
  rw [List.drop_zero, List.append_assoc]
  rfl

theorem l26c (l : List (List Cell)) (hl : l.length ≤ 100) (hs : l.all shortR = true) (c q t : Int) : ∀ (d i : Nat) (y : List (List Cell)), i + d = l.length → y.length ≤ 1000100 + 400 * i →
    ∃ m, goF E (callOf L41) F26 0 m P26_0_c1 (M26_0_c1 y i c q t l) = some ([.one (.sl false 5 (y ++ effsEnc (l.drop i)))], [])
  | 0, i, y, hi, hy => by
    refine ⟨1, ?_⟩
    rw [e26_0_c1]
    have : l.drop i = [] := List.drop_eq_nil_of_le (by omega)
    rw [this, effsEnc, List.append_nil]
    exact cf (decide_eq_false (by omega)) rfl
  | d + 1, i, y, hi, hy => by
    obtain ⟨g1, g2, g3, g4, g5⟩ := effEnc_ok (r := Abs.rowAt l i) (all_at hs (by omega)) (y := y) (by omega)
    obtain ⟨m, hm⟩ := l26c l hl hs c q t d (i + 1) (y ++ effEnc (Abs.rowAt l i)) (by omega) (by simp; omega)
    refine ⟨m + 1, ?_⟩
    have e1 : encL [[Cell.int .i64 (nr (Abs.rowAt l i) 0)]] = uenc (IntKind.wrap .u64 (nr (Abs.rowAt l i) 0)) := by
      rw [encL, encL, List.append_nil]
      rfl
    rw [e26_0_c1, Int.toNat_natCast, e1]
    refine ct (decide_eq_true (by omega)) (ct (inB_nat' (by omega)) (ct (okNums_mk (by omega) (by simp)) (ct g1 (ct g2 (ct g3 (ct g4 ?_))))))
    rw [nat_wrap (n := l.length) (by omega) (by omega), effEnc_app, hm, drop_cons l i (by omega), effsEnc, List.append_assoc]

theorem k26c (c q t : Int) (l : List (List Cell)) (h : okApp [] l = true) : ∃ m, runF E (callOf L41) m 26 [.one .nils, .agg [.int .i64 c, .int .i64 q, .int .i64 t, .sl false 23 l]] [] = some ([.one (.sl false 5 (encU c q t l))], []) := by
  obtain ⟨h1, h2, h3⟩ := okApp_of h
  have hu := encL_len (headU c q t l.length)
  have h4 : (headU c q t l.length).length = 4 := rfl
  obtain ⟨m, hm⟩ := l26c l h2 h3 c q t l.length 0 ([] ++ encL (headU c q t l.length)) (by omega) (by simp; omega)
  refine ⟨m + 1, ?_⟩
  rw [e26_c1]
  refine ct (okNums_mk (by simp) (by simp)) (Eq.trans hm ?_)
  rw [List.drop_zero, List.nil_append]
  rfl

/- READING -/

theorem udecF_zero : ∀ (k : Nat) (i acc : Int) (l : List (List Cell)), (udecF k i acc l).2.2 ≠ 0 → (udecF k i acc l).1 = 0 ∧ (udecF k i acc l).2.1 = 0
  | 0, _, _, _, _ => by simp [udecF]
  | k + 1, _, _, [], _ => by simp [udecF]
  | k + 1, i, acc, r :: rs, h => by
    unfold udecF at h ⊢
    split
    · simp
    · rename_i h1
      rw [if_neg h1] at h
      split
      · rename_i h2
        rw [if_pos h2] at h
        split
        · simp
        · rename_i h3
          rw [if_neg h3] at h
          simp at h
      · rename_i h2
        rw [if_neg h2] at h
        exact udecF_zero k _ _ rs h

/-- the results of a decoder as the code hands them back -/
def rdI (r : Int × Int × Int) : List AV × List Block := ([.one (.int .i64 r.1), .one (.int .i64 r.2.1), .one (.int .i64 r.2.2)], [])
def rdS (r : List UInt8 × Int × Int) : List AV × List Block := ([.one (.str r.1), .one (.int .i64 r.2.1), .one (.int .i64 r.2.2)], [])

theorem k62 (x : List (List Cell)) (hx : okRd x = true) : runF E (callOf L63) 1 62 [.one (.sl false 5 x)] [] = some (rdI (idec x)) := by
  rw [e62]
  refine ct hx ?_
  unfold idec
  by_cases he : (udec x).2.2 = 0
  · rw [if_neg (by simpa using he)]
    refine cf (by simpa using he) ?_
    rw [unzigxor (udec_bound (okRd_of hx).1 he).2.2 (udec_lt (okRd_of hx).1 he)]
    rfl
  · rw [if_pos he]
    exact ct (by simpa using he) rfl

theorem k59 (x : List (List Cell)) (hx : okRd x = true) : runF E (callOf L62) 1 59 [.one (.sl false 5 x)] [] = some (rdI (idec x)) := by
  rw [e59]
  refine ct hx ?_
  unfold idec
  by_cases he : (udec x).2.2 = 0
  · rw [if_neg (by simpa using he)]
    refine cf (by simpa using he) ?_
    have h0 := (udec_bound (okRd_of hx).1 he).2.2
    have h1 := udec_lt (okRd_of hx).1 he
    unfold unzig
    rw [Int.tmod_eq_emod_of_nonneg h0, Int.tdiv_eq_ediv_of_nonneg h0, wrapu (by omega) (by omega), wrap64 (n := (udec x).1 / 2) (by omega) (by omega)]
    by_cases h2 : (udec x).1 % 2 = 0
    · rw [if_pos h2]
      exact ct (by simpa using h2) rfl
    · rw [if_neg h2]
      refine cf (by simpa using h2) ?_
      rw [wrap64 (n := 0 - (udec x).1 / 2) (by omega) (by omega), wrap64 (by omega) (by omega), Int.zero_sub]
      rfl
  · rw [if_pos he]
    exact ct (by simpa using he) rfl

theorem k61 (x : List (List Cell)) (hx : okRd x = true) : runF E (callOf L59) 1 61 [.one (.sl false 5 x)] [] = some (rdS (sdec x)) := by
  rw [e61]
  refine ct hx ?_
  unfold sdec
  have hl := (okRd_of hx).2
  by_cases he : (udec x).2.2 = 0
  · rw [if_neg (by simpa using he)]
    refine cf (by simpa using he) ?_
    have hb := udec_bound (okRd_of hx).1 he
    rw [wrap64 (n := (x.length : Int) - (udec x).2.1) (by omega) (by omega), wrapu (by omega) (by omega)]
    by_cases hv : (x.length : Int) - (udec x).2.1 < (udec x).1
    · rw [if_pos hv]
      exact ct (decide_eq_true hv) rfl
    · rw [if_neg hv, wrap64 (n := (udec x).1) (by omega) (by omega), wrap64 (n := (udec x).2.1 + (udec x).1) (by omega) (by omega)]
      refine cf (decide_eq_false hv) (ct (inB_of (by omega) (by omega)) (ct (inB_of (by omega) (by omega)) ?_))
      unfold subL
      rw [takeN_eq, dropN_eq, List.drop_take, show ((udec x).2.1 + (udec x).1).toNat - (udec x).2.1.toNat = (udec x).1.toNat by omega]
      rfl
  · rw [if_pos he]
    exact ct (by simpa using he) rfl

theorem k58 (x : List (List Cell)) (hx : okRd x = true) : runF E (callOf L61) 1 58 [.one (.sl false 5 x)] [] = some (rdS (sdec x)) := by
  rw [e58]
  refine ct hx ?_
  unfold sdec
  have hl := (okRd_of hx).2
  by_cases he : (udec x).2.2 = 0
  · rw [if_neg (by simpa using he)]
    refine cf (by simpa using he) ?_
    have hb := udec_bound (okRd_of hx).1 he
    rw [wrap64 (n := (x.length : Int) - (udec x).2.1) (by omega) (by omega), wrapu (by omega) (by omega)]
    by_cases hv : (x.length : Int) - (udec x).2.1 < (udec x).1
    · rw [if_pos hv]
      exact ct (decide_eq_true hv) rfl
    · rw [if_neg hv, wrap64 (n := (udec x).1) (by omega) (by omega), wrap64 (n := (udec x).2.1 + (udec x).1) (by omega) (by omega)]
      refine cf (decide_eq_false hv) (ct (inB_of (by omega) (by omega)) (ct (inB_of (by omega) (by omega)) ?_))
      unfold subL
      rw [takeN_eq, dropN_eq, List.drop_take, show ((udec x).2.1 + (udec x).1).toNat - (udec x).2.1.toNat = (udec x).1.toNat by omega]
      rfl
  · rw [if_pos he]
    exact ct (by simpa using he) rfl

theorem sdec_bound {x : List (List Cell)} (hx : okRd x = true) : 0 ≤ (sdec x).2.1 ∧ (sdec x).2.1 ≤ x.length := by
  unfold sdec
  split
  · simp
  · rename_i he
    have hb := udec_bound (okRd_of hx).1 (by simpa using he)
    split
    · simp
    · simp only
      omega

theorem idec_bound {x : List (List Cell)} (hx : okRd x = true) : 0 ≤ (idec x).2.1 ∧ (idec x).2.1 ≤ x.length := by
  unfold idec
  split
  · simp
  · rename_i he
    have hb := udec_bound (okRd_of hx).1 (by simpa using he)
    simp only
    omega

theorem okTake_mk {o n : Int} (h0 : 0 ≤ o) (h1 : 0 ≤ n) (h2 : o + n ≤ 4611686018427387904) : okTake o n = true := by
  unfold okTake
  simp [h0, h1, h2]

theorem k52 (n z : Int) (b : List (List Cell)) (o e : Int) (h : okTake o n = true) : runF E (callOf L57) 1 52 [.one (.ptr 0 0), .one (.int .i64 n), .one (.int .i64 z)] [.var [.sl false 5 b, .int .i64 o, .int .i64 e]] =
    some ([], [.var [.sl false 5 b, .int .i64 (o + n), .int .i64 z]]) := by
  unfold okTake at h
  simp only [Bool.and_eq_true, decide_eq_true_eq] at h
  rw [e52, wrap64 (by omega) (by omega)]

theorem rstep_at {α : Type} {z : α} {d : List (List Cell) → α × Int × Int} (hd : ∀ y, okRd y = true → 0 ≤ (d y).2.1 ∧ (d y).2.1 ≤ y.length) {b : List (List Cell)} {o e : Int} (h : okAt b o = true) : okAt b (rstep z d b o e).2.1 = true := by
  obtain ⟨h1, h2, h3⟩ := okAt_of h
  unfold rstep
  split
  · exact h
  · have := hd _ (okRd_drop h1 o.toNat)
    rw [List.length_drop] at this
    exact okAt_mk h1 (by simp only; omega) (by simp only; omega)

theorem rtext_at {b : List (List Cell)} {o e : Int} (h : okAt b o = true) : okAt b (rtext b o e).2.1 = true := rstep_at (fun _ hy => sdec_bound hy) h
theorem rint_at {b : List (List Cell)} {o e : Int} (h : okAt b o = true) : okAt b (rint b o e).2.1 = true := rstep_at (fun _ hy => idec_bound hy) h

theorem k39 (b : List (List Cell)) (o e : Int) (h : okAt b o = true) : runF E (callOf L52) 1 39 [.one (.ptr 0 0)] [.var [.sl false 5 b, .int .i64 o, .int .i64 e]] =
    some ([.one (.int .i64 (rnum b o e).1)], [.var [.sl false 5 b, .int .i64 (rnum b o e).2.1, .int .i64 (rnum b o e).2.2]]) := by
  obtain ⟨h1, h2, h3⟩ := okAt_of h
  have h4 := okRd_drop h1 o.toNat
  rw [e39]
  unfold rnum
  by_cases he : e = 0
  · subst he
    rw [if_neg (by simp)]
    refine cf (by simp) (ct (inB_of h2 (by omega)) ?_)
    rw [dropN_eq]
    refine ct h4 ?_
    have hl := (okRd_of h1).2
    by_cases hd : (udec (b.drop o.toNat)).2.2 = 0
    · refine ct (by simpa using hd) ?_
      have hb := udec_bound (okRd_of h4).1 hd
      rw [List.length_drop] at hb
      by_cases hbig : 2147483647 < (udec (b.drop o.toNat)).1
      · refine ct (decide_eq_true hbig) (ct (okTake_mk h2 (by omega) (by omega)) ?_)
        have e : rnum2 (b.drop o.toNat) = (0, 0, 9) := by
          unfold rnum2
          rw [if_neg (by simpa using hd), if_pos hbig]
        rw [e, Int.add_zero]
        rfl
      · refine cf (decide_eq_false hbig) (ct (okTake_mk h2 (by omega) (by omega)) ?_)
        have e : rnum2 (b.drop o.toNat) = udec (b.drop o.toNat) := by
          unfold rnum2
          rw [if_neg (by simpa using hd), if_neg hbig]
        rw [e, if_neg (by simpa using hd), wrap64 (by omega) (by omega), hd]
    · have hz : (udec (b.drop o.toNat)).1 = 0 ∧ (udec (b.drop o.toNat)).2.1 = 0 := udecF_zero 10 0 0 _ hd
      refine cf (by simpa using hd) (ct (okTake_mk h2 (by omega) (by omega)) ?_)
      have e : rnum2 (b.drop o.toNat) = (0, 0, (udec (b.drop o.toNat)).2.2) := by
        unfold rnum2
        rw [if_pos hd]
      rw [e, if_pos (by simpa using hd), hz.1, hz.2, Int.add_zero]
      rfl
  · rw [if_pos he]
    exact ct (by simpa using he) rfl

theorem k53 (b : List (List Cell)) (o e : Int) (h : okAt b o = true) : runF E (callOf L39) 1 53 [.one (.ptr 0 0)] [.var [.sl false 5 b, .int .i64 o, .int .i64 e]] =
    some ([.one (.str (rtext b o e).1)], [.var [.sl false 5 b, .int .i64 (rtext b o e).2.1, .int .i64 (rtext b o e).2.2]]) := by
  obtain ⟨h1, h2, h3⟩ := okAt_of h
  have h4 := okRd_drop h1 o.toNat
  rw [e53, dropN_eq]
  unfold rtext rstep
  by_cases he : e = 0
  · subst he
    rw [if_neg (by simp)]
    have := sdec_bound h4
    rw [List.length_drop] at this
    have hl := (okRd_of h1).2
    exact cf (by simp) (ct (inB_of h2 (by omega)) (ct h4 (ct (okTake_mk h2 (by omega) (by omega)) rfl)))
  · rw [if_pos he]
    exact ct (by simpa using he) rfl

theorem k54 (b : List (List Cell)) (o e : Int) (h : okAt b o = true) : runF E (callOf L53) 1 54 [.one (.ptr 0 0)] [.var [.sl false 5 b, .int .i64 o, .int .i64 e]] =
    some ([.one (.int .i64 (rint b o e).1)], [.var [.sl false 5 b, .int .i64 (rint b o e).2.1, .int .i64 (rint b o e).2.2]]) := by
  obtain ⟨h1, h2, h3⟩ := okAt_of h
  have h4 := okRd_drop h1 o.toNat
  rw [e54, dropN_eq]
  unfold rint rstep
  by_cases he : e = 0
  · subst he
    rw [if_neg (by simp)]
    have := idec_bound h4
    rw [List.length_drop] at this
    have hl := (okRd_of h1).2
    exact cf (by simp) (ct (inB_of h2 (by omega)) (ct h4 (ct (okTake_mk h2 (by omega) (by omega)) rfl)))
  · rw [if_pos he]
    exact ct (by simpa using he) rfl

theorem reff_at {b : List (List Cell)} {o e : Int} (h : okAt b o = true) : okAt b (reff b o e).2.1 = true := rtext_at (rint_at (rtext_at (rtext_at (rnum_at h))))

theorem k40 (b : List (List Cell)) (o e : Int) (h : okAt b o = true) : runF E (callOf L54) 1 40 [.one (.ptr 0 0)] [.var [.sl false 5 b, .int .i64 o, .int .i64 e]] =
    some ([.agg [.int .i64 (reff b o e).1.1, .str (reff b o e).1.2.1, .str (reff b o e).1.2.2.1, .int .i64 (reff b o e).1.2.2.2.1, .str (reff b o e).1.2.2.2.2]], [.var [.sl false 5 b, .int .i64 (reff b o e).2.1, .int .i64 (reff b o e).2.2]]) := by
  rw [e40]
  have a1 := rnum_at (e := e) h
  have a2 := rtext_at (e := (rnum b o e).2.2) a1
  have a3 := rtext_at (e := (rtext b (rnum b o e).2.1 (rnum b o e).2.2).2.2) a2
  exact ct h (ct a1 (ct a2 (ct a3 (ct (rint_at a3) rfl))))

end Go.Proofs.Yteogaajjkcfeeaa
