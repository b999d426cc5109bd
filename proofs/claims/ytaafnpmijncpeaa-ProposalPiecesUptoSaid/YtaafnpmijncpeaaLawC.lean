/-
  The law of pieces, in plain Lean.
-/
import Derived.Test.YtaafnpmijncpeaaPool
namespace Go.Proofs.Ytaafnpmijncpeaa
open Go.Abs

theorem rnum2_cut {v : Int} {n : Nat} (hn : n < (uenc (IntKind.wrap .u64 v)).length) : rnum2 ((uenc (IntKind.wrap .u64 v)).take n) = (0, 0, 1) := by
  have h := udec_cut (v := IntKind.wrap .u64 v) (wrapu_range v).1 (wrapu_range v).2 hn
  unfold rnum2
  rw [h, if_pos (by simp)]

theorem rread_cut : ∀ (l pre acc : List (List Cell)) (k : Nat), small l → k < (encL l).length → rreadF (pre ++ (encL l).take k) l.length pre.length acc = ([], 0, 1)
  | [], pre, acc, k, _, hk => by simp [encL] at hk
  | r :: l, pre, acc, k, h, hk => by
    have hr := h r (List.mem_cons_self)
    rw [encL, List.length_append] at hk
    by_cases hc : k < (uenc (IntKind.wrap .u64 (nr r 0))).length
    · have e : (pre ++ (encL (r :: l)).take k).drop ((pre.length : Nat) : Int).toNat = (uenc (IntKind.wrap .u64 (nr r 0))).take k := by
        rw [Int.toNat_natCast, List.drop_left, encL, List.take_append_of_le_length (by omega)]
      rw [List.length_cons, rreadF, e, rnum2_cut hc, if_pos (by simp)]
    · have ih := rread_cut l (pre ++ uenc (IntKind.wrap .u64 (nr r 0))) (acc ++ [reNum r]) (k - (uenc (IntKind.wrap .u64 (nr r 0))).length) (fun q hq => h q (List.mem_cons_of_mem _ hq)) (by omega)
      have et : (encL (r :: l)).take k = uenc (IntKind.wrap .u64 (nr r 0)) ++ (encL l).take (k - (uenc (IntKind.wrap .u64 (nr r 0))).length) := by
        rw [encL, List.take_append, List.take_of_length_le (by omega)]
      have e : (pre ++ (encL (r :: l)).take k).drop ((pre.length : Nat) : Int).toNat = uenc (IntKind.wrap .u64 (nr r 0)) ++ (encL l).take (k - (uenc (IntKind.wrap .u64 (nr r 0))).length) := by
        rw [Int.toNat_natCast, List.drop_left, et]
      rw [List.length_cons, rreadF, e, rnum2_enc hr.1 hr.2, if_neg (by simp)]
      simp only
      rw [et, ← List.append_assoc, ← Int.natCast_add, ← List.length_append]
      exact ih

theorem decCs_cut : ∀ (c pre acc : List (List Cell)) (k : Nat), small (chsNums c) → k < (encL (chsNums c)).length → (decCs (pre ++ (encL (chsNums c)).take k) c.length pre.length acc).2.2 = 1
  | [], pre, acc, k, _, hk => by simp [encL, chsNums] at hk
  | r :: c, pre, acc, k, h, hk => by
    rw [chsNums, small_app] at h
    rw [chsNums, encL_app, List.length_append] at hk
    by_cases hc : k < (encL (chNums r)).length
    · have e : (pre ++ (encL (chsNums (r :: c))).take k).drop ((pre.length : Nat) : Int).toNat = [] ++ (encL (chNums r)).take k := by
        rw [Int.toNat_natCast, List.drop_left, chsNums, encL_app, List.take_append_of_le_length (by omega), List.nil_append]
      have e7 := rread_cut (chNums r) [] [] k h.1 hc
      have e7' : rread ([] ++ (encL (chNums r)).take k) 7 = ([], 0, 1) := e7
      rw [List.length_cons, decCs, e, e7', if_pos (by simp)]
    · have et : (encL (chsNums (r :: c))).take k = encL (chNums r) ++ (encL (chsNums c)).take (k - (encL (chNums r)).length) := by
        rw [chsNums, encL_app, List.take_append, List.take_of_length_le (by omega)]
      have ih := decCs_cut c (pre ++ encL (chNums r)) (acc ++ [reCh r]) (k - (encL (chNums r)).length) h.2 (by omega)
      have e : (pre ++ (encL (chsNums (r :: c))).take k).drop ((pre.length : Nat) : Int).toNat = [] ++ (encL (chNums r) ++ (encL (chsNums c)).take (k - (encL (chNums r)).length)) := by
        rw [Int.toNat_natCast, List.drop_left, et, List.nil_append]
      have e7 := rread_enc ((encL (chsNums c)).take (k - (encL (chNums r)).length)) (chNums r) [] [] h.1
      have e7' : rread ([] ++ (encL (chNums r) ++ (encL (chsNums c)).take (k - (encL (chNums r)).length))) 7 = ((chNums r).map reNum, ((encL (chNums r)).length : Int), 0) := by
        simpa [rread, chNums] using e7
      rw [List.length_cons, decCs, e, e7', if_neg (by simp)]
      simp only
      rw [et, ← List.append_assoc, ← Int.natCast_add, ← List.length_append, mkCh_enc]
      exact ih

theorem decP_cut {a n : Int} {c : List (List Cell)} (h : vProp a n c = 0) {k : Nat} (hk : k < (encP a n c).length) : (decP ((encP a n c).take k)).2.2.2.2 = 1 := by
  obtain ⟨h1, h2, h3, h4, h5, h6, h7⟩ := vProp_ok h
  have hs : small (headNums a n c.length) := by
    intro q hq
    simp only [headNums, List.mem_cons, List.not_mem_nil, or_false] at hq
    rcases hq with rfl | rfl | rfl <;> simp only [nr, cellAt, Cell.toInt] <;> omega
  have hc := chs_small c (vChs_all c [] h7)
  rw [encP, encL_app, List.length_append] at hk
  rw [decP_eq]
  by_cases hk1 : k < (encL (headNums a n c.length)).length
  · have e : (encP a n c).take k = [] ++ (encL (headNums a n c.length)).take k := by
      rw [encP, encL_app, List.take_append_of_le_length (by omega), List.nil_append]
    have e3 : rread ([] ++ (encL (headNums a n c.length)).take k) 3 = ([], 0, 1) := rread_cut (headNums a n c.length) [] [] k hs hk1
    rw [e, e3, if_pos (by simp)]
  · have et : (encP a n c).take k = encL (headNums a n c.length) ++ (encL (chsNums c)).take (k - (encL (headNums a n c.length)).length) := by
      rw [encP, encL_app, List.take_append, List.take_of_length_le (by omega)]
    have e3 : rread ((encP a n c).take k) 3 = ((headNums a n c.length).map reNum, ((encL (headNums a n c.length)).length : Int), 0) := by
      have := rread_enc ((encL (chsNums c)).take (k - (encL (headNums a n c.length)).length)) (headNums a n c.length) [] [] hs
      rw [et]
      simpa [rread, headNums] using this
    have e4 := decCs_cut c (encL (headNums a n c.length)) [] (k - (encL (headNums a n c.length)).length) hc (by omega)
    rw [← et] at e4
    rw [e3, if_neg (by simp)]
    have k0 : nr (Abs.rowAt ((headNums a n c.length).map reNum) 0) 0 = a := rfl
    have k1 : nr (Abs.rowAt ((headNums a n c.length).map reNum) 1) 0 = n := rfl
    have k2 : nr (Abs.rowAt ((headNums a n c.length).map reNum) 2) 0 = (c.length : Int) := rfl
    simp only [k0, k1, k2, Int.toNat_natCast]
    rw [if_neg (by omega)]
    unfold fin5
    rw [if_pos (by rw [e4]; simp)]
    exact e4

def encR (r : List Cell) : List (List Cell) := encP (nr r 0) (nr r 1) (nl r 2)

def encAll : List (List Cell) → List (List Cell)
  | [] => []
  | r :: rs => encR r ++ encAll rs

theorem encAll_app : ∀ (x y : List (List Cell)), encAll (x ++ y) = encAll x ++ encAll y
  | [], _ => rfl
  | r :: x, y => by rw [List.cons_append, encAll, encAll, encAll_app x y, List.append_assoc]

theorem encAll_okB : ∀ (x : List (List Cell)), okB (encAll x) = true
  | [] => rfl
  | r :: x => okB_app (encL_okB _) (encAll_okB x)

theorem encR_len {r : List Cell} (h : okProp r) : (encR r).length ≤ 450 := by
  have := encP_len (nr r 0) (nr r 1) (nl r 2)
  have := (vProp_ok h).2.2.2.2.2.1
  unfold encR
  omega

theorem encAll_len : ∀ (x : List (List Cell)), (∀ r ∈ x, okProp r) → (encAll x).length ≤ 450 * x.length
  | [], _ => by simp [encAll]
  | r :: x, h => by
    have := encR_len (h r (List.mem_cons_self))
    have := encAll_len x (fun q hq => h q (List.mem_cons_of_mem _ hq))
    simp only [encAll, List.length_append, List.length_cons]
    omega

theorem uenc_pos (v : Int) : 1 ≤ (uenc v).length := by
  unfold uenc uencF
  split <;> simp

theorem encR_pos (r : List Cell) : 1 ≤ (encR r).length := by
  unfold encR encP headNums
  simp only [List.cons_append, encL, List.length_append]
  have := uenc_pos (IntKind.u64.wrap (nr [Cell.int IntKind.i64 (nr r 0)] 0))
  omega

theorem l9a (c : List (List Cell)) (hc : (∀ r ∈ c, okProp r) ∧ c.length ≤ 9) (cut : Int) (R : List AV × List Block)
    (hr : ∃ m, goF E (callOf L8) F9 0 m P9_1 (M9_1 cut c (encAll c) 0 0) = some R) : ∀ (d i : Nat), i + d = c.length →
    ∃ m, goF E (callOf L8) F9 0 m P9_0 (M9_0 cut c (encAll (c.take i)) i) = some R
  | 0, i, hi => by
    obtain ⟨m, hm⟩ := hr
    refine ⟨m + 1, ?_⟩
    rw [e9_0, List.take_of_length_le (by omega)]
    exact cf (decide_eq_false (by omega)) hm
  | d + 1, i, hi => by
    obtain ⟨m, hm⟩ := l9a c hc cut R hr d (i + 1) (by omega)
    have hok := hc.1 (Abs.rowAt c i) (by rw [rowAt_eq (show i < c.length by omega)]; exact List.getElem_mem _)
    have hl := encAll_len (c.take i) (fun r hr => hc.1 r (List.mem_of_mem_take hr))
    rw [List.length_take] at hl
    have h6 := (vProp_ok hok).2.2.2.2.2.1
    refine ⟨m + 1, ?_⟩
    rw [e9_0, Int.toNat_natCast]
    refine ct (decide_eq_true (by omega)) (ct (inB_nat' (by omega)) (ct ?_ ?_))
    · unfold okApp
      simp only [Bool.and_eq_true, decide_eq_true_eq]
      omega
    · rw [nat_wrap (n := c.length) (by omega) (by omega)]
      rw [take_snoc c i (by omega), encAll_app] at hm
      simp only [encAll, List.append_nil] at hm
      exact hm

theorem l9b (c : List (List Cell)) (hc : (∀ r ∈ c, okProp r) ∧ c.length ≤ 9) (cut : Int) (h0 : 0 ≤ cut) (h1 : cut ≤ 65535) : ∀ (d i : Nat), i + d = c.length →
    ∃ m, goF E (callOf L8) F9 0 m P9_1 (M9_1 cut c (encAll c) ((encAll (c.take i)).length : Int) i) = some ([.one (.bool true)], [])
  | 0, i, hi => by
    refine ⟨1, ?_⟩
    rw [e9_1, List.take_of_length_le (by omega)]
    exact cf (decide_eq_false (by omega)) (ct (by simp) rfl)
  | d + 1, i, hi => by
    obtain ⟨m, hm⟩ := l9b c hc cut h0 h1 d (i + 1) (by omega)
    have hi' : i < c.length := by omega
    have hok := hc.1 (Abs.rowAt c i) (by rw [rowAt_eq hi']; exact List.getElem_mem _)
    have hlen := encAll_len c hc.1
    have e : encAll c = encAll (c.take i) ++ (encR (Abs.rowAt c i) ++ encAll (c.drop (i + 1))) := by
      have : c = c.take i ++ (Abs.rowAt c i :: c.drop (i + 1)) := by rw [← drop_cons c i hi', List.take_append_drop]
      conv => lhs; rw [this]
      rw [encAll_app, encAll]
    have ed : (encAll c).drop (encAll (c.take i)).length = encR (Abs.rowAt c i) ++ encAll (c.drop (i + 1)) := by
      rw [e, List.drop_left]
    have hdec := decP_enc hok (encAll (c.drop (i + 1)))
    have hp := encR_pos (Abs.rowAt c i)
    have hL : (encAll c).length = (encAll (c.take i)).length + ((encR (Abs.rowAt c i)).length + (encAll (c.drop (i + 1))).length) := by
      rw [e]; simp
    have hb : okB (encAll c) = true := encAll_okB c
    rw [take_snoc c i hi', encAll_app] at hm
    simp only [encAll, List.append_nil, List.length_append] at hm
    have hmod0 := Int.emod_nonneg cut (show ((encR (Abs.rowAt c i)).length : Int) ≠ 0 by omega)
    have hmod1 := Int.emod_lt_of_pos cut (show (0 : Int) < (encR (Abs.rowAt c i)).length by omega)
    have hcut := decP_cut hok (k := (cut % ((encR (Abs.rowAt c i)).length : Int)).toNat) (by show _ < (encR (Abs.rowAt c i)).length; omega)
    refine ⟨m + 1, ?_⟩
    have hsub : subL (encAll c) (encAll (c.take i)).length ((encAll (c.take i)).length + (cut % ((encR (Abs.rowAt c i)).length : Int)).toNat) = (encR (Abs.rowAt c i)).take (cut % ((encR (Abs.rowAt c i)).length : Int)).toNat := by
      unfold subL
      rw [takeN_eq, dropN_eq, List.drop_take, ed, Nat.add_sub_cancel_left, List.take_append_of_le_length (by omega)]
    have hrd1 : okRd ((encAll c).drop (encAll (c.take i)).length) = true := okRd_mk (okB_drop hb _) (by simp; omega)
    rw [e9_1, Int.toNat_natCast, Int.toNat_natCast, dropN_eq]
    rw [ed] at hrd1 ⊢
    rw [show encR (Abs.rowAt c i) = encP (nr (Abs.rowAt c i) 0) (nr (Abs.rowAt c i) 1) (nl (Abs.rowAt c i) 2) from rfl] at *
    rw [hdec]
    generalize encP (nr (Abs.rowAt c i) 0) (nr (Abs.rowAt c i) 1) (nl (Abs.rowAt c i) 2) = eR at *
    rw [wrap64 (n := cut) (by omega) (by omega), Int.tmod_eq_emod_of_nonneg h0, wrap64 (n := ((encAll (c.take i)).length : Int) + cut % (eR.length : Int)) (by omega) (by omega), wrap64 (n := ((encAll (c.take i)).length : Int) + (eR.length : Int)) (by omega) (by omega)]
    have et : (((encAll (c.take i)).length : Int) + cut % (eR.length : Int)).toNat = (encAll (c.take i)).length + (cut % (eR.length : Int)).toNat := by omega
    rw [et, hsub]
    have hrd2 : okRd (eR.take (cut % (eR.length : Int)).toNat) = true := by
      rw [← hsub]
      unfold subL
      rw [takeN_eq, dropN_eq]
      exact okRd_mk (okB_drop (okB_take hb _) _) (by simp; omega)
    refine ct (decide_eq_true (by omega)) (ct (inB_nat' (by omega)) (ct hrd1 (cf (by simp) (cf (decide_eq_false (by simp only; omega)) (cf (decide_eq_false (by rw [wrap64 (by omega) (by omega)]; simp only; omega)) (ct (inB_nat' hi') (ct (decide_eq_true ?_) (cf ?_ (cf (decide_eq_false (by simp only; omega)) (ct (inB_of (by omega) (by omega)) (ct (inB_nat' (by omega)) (ct hrd2 (cf (by rw [hcut]; rfl) ?_)))))))))))))
    · have := (vProp_ok hok).2.2.2.2.2.1
      simp only [List.length_map]
      omega
    · simp only [eqP_re2, Bool.not_true]
    · rw [show (i : Int) + 1 = ((i + 1 : Nat) : Int) by omega, wrap64 (by omega) (by omega)]
      exact hm

theorem law9 (l : List (List Cell)) (cut : Int) (hl : l.length < 4611686018427387904) (h0 : 0 ≤ cut) (h1 : cut ≤ 65535) : ∃ m, runF E (callOf L8) m 9 [.one (.sl false 3 l), .one (.int .u16 cut)] [] = some ([.one (.bool true)], []) := by
  have hp := gPool_ok l
  obtain ⟨m, hm⟩ := l9a (gPool l) hp cut _ (l9b (gPool l) hp cut h0 h1 (gPool l).length 0 (by omega)) (gPool l).length 0 (by omega)
  refine ⟨m + 1, ?_⟩
  rw [e9]
  exact ct (decide_eq_true hl) hm

end Go.Proofs.Ytaafnpmijncpeaa
