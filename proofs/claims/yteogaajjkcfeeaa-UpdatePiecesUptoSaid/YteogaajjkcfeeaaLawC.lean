/-
  The law of pieces, in plain Lean.
-/
import Derived.Test.YteogaajjkcfeeaaLawB
namespace Go.Proofs.Yteogaajjkcfeeaa
open Go.Abs

/-- a cut within an effect -/
theorem deff_cut {r : List Cell} (h : goodE r) {n : Nat} (hn : n < (effEnc r).length) : (deff ((effEnc r).take n)).2.2 = 1 := by
  obtain ⟨h0, h1, h2, h3, h4⟩ := goodE_facts h
  have hx : effEnc r = uenc (IntKind.wrap .u64 (nr r 0)) ++ (senc (ns r 1) ++ (senc (ns r 2) ++ (uenc (zig (nr r 3)) ++ senc (ns r 4)))) := rfl
  rw [hx] at hn ⊢
  have c1 := fun k => rnum2_cut (v := nr r 0) (n := k)
  have p1 := fun rest => rnum2_enc (v := nr r 0) (by omega) (by omega) rest
  have c2 := fun k => sdec_cut (s := ns r 1) (by omega) (n := k)
  have p2 := fun rest => sdec_senc (s := ns r 1) (by omega) rest
  have c3 := fun k => sdec_cut (s := ns r 2) (by omega) (n := k)
  have p3 := fun rest => sdec_senc (s := ns r 2) (by omega) rest
  have c4 := fun k => idec_cut (v := nr r 3) h.2 (n := k)
  have p4 := fun rest => idec_enc (v := nr r 3) h.2 rest
  have c5 := fun k => sdec_cut (s := ns r 4) (by omega) (n := k)
  generalize uenc (IntKind.wrap .u64 (nr r 0)) = A at *
  generalize senc (ns r 1) = B at *
  generalize senc (ns r 2) = C at *
  generalize uenc (zig (nr r 3)) = D at *
  generalize senc (ns r 4) = F at *
  simp only [List.length_append] at hn
  unfold deff
  simp only
  by_cases n1 : n < A.length
  · rw [List.take_append_of_le_length (by omega), c1 n n1, if_pos (by simp)]
  rw [List.take_append, List.take_of_length_le (by omega), p1]
  simp only
  rw [if_neg (by simp), drop_at A _ _ rfl]
  obtain ⟨m, rfl⟩ : ∃ m, n = A.length + m := ⟨n - A.length, by omega⟩
  rw [Nat.add_sub_cancel_left]
  by_cases n2 : m < B.length
  · rw [List.take_append_of_le_length (by omega), c2 m n2, if_pos (by simp)]
  rw [List.take_append, List.take_of_length_le (by omega), p2]
  simp only
  obtain ⟨k, rfl⟩ : ∃ k, m = B.length + k := ⟨m - B.length, by omega⟩
  rw [Nat.add_sub_cancel_left]
  rw [if_neg (by simp), show A ++ (B ++ (C ++ (D ++ F)).take k) = (A ++ B) ++ (C ++ (D ++ F)).take k by simp only [List.append_assoc], drop_at (A ++ B) _ _ (by simp only [List.length_append]; omega)]
  by_cases n3 : k < C.length
  · rw [List.take_append_of_le_length (by omega), c3 k n3, if_pos (by simp)]
  rw [List.take_append, List.take_of_length_le (by omega), p3]
  simp only
  obtain ⟨i, rfl⟩ : ∃ i, k = C.length + i := ⟨k - C.length, by omega⟩
  rw [Nat.add_sub_cancel_left]
  rw [if_neg (by simp), show (A ++ B) ++ (C ++ (D ++ F).take i) = (A ++ B ++ C) ++ (D ++ F).take i by simp only [List.append_assoc], drop_at (A ++ B ++ C) _ _ (by simp only [List.length_append]; omega)]
  by_cases n4 : i < D.length
  · rw [List.take_append_of_le_length (by omega), c4 i n4, if_pos (by simp)]
  rw [List.take_append, List.take_of_length_le (by omega), p4]
  simp only
  obtain ⟨j, rfl⟩ : ∃ j, i = D.length + j := ⟨i - D.length, by omega⟩
  rw [Nat.add_sub_cancel_left]
  rw [if_neg (by simp), show (A ++ B ++ C) ++ (D ++ F.take j) = (A ++ B ++ C ++ D) ++ F.take j by simp only [List.append_assoc], drop_at (A ++ B ++ C ++ D) _ _ (by simp only [List.length_append]; omega)]
  rw [c5 j (by omega), if_pos (by simp)]

theorem decEs_cut : ∀ (l pre acc : List (List Cell)) (k : Nat), (∀ r ∈ l, goodE r) → k < (effsEnc l).length → (decEs (pre ++ (effsEnc l).take k) l.length pre.length acc).2.2 = 1
  | [], pre, acc, k, _, hk => by simp [effsEnc] at hk
  | r :: l, pre, acc, k, h, hk => by
    have hr := h r List.mem_cons_self
    rw [effsEnc, List.length_append] at hk
    by_cases hc : k < (effEnc r).length
    · have e : (pre ++ (effsEnc (r :: l)).take k).drop ((pre.length : Nat) : Int).toNat = (effEnc r).take k := by
        rw [Int.toNat_natCast, List.drop_left, effsEnc, List.take_append_of_le_length (by omega)]
      have := deff_cut hr hc
      rw [List.length_cons, decEs, e, if_pos (by rw [this]; simp)]
      exact this
    · have et : (effsEnc (r :: l)).take k = effEnc r ++ (effsEnc l).take (k - (effEnc r).length) := by
        rw [effsEnc, List.take_append, List.take_of_length_le (by omega)]
      have ih := decEs_cut l (pre ++ effEnc r) (acc ++ [reEff r]) (k - (effEnc r).length) (fun q hq => h q (List.mem_cons_of_mem _ hq)) (by omega)
      have e : (pre ++ (effsEnc (r :: l)).take k).drop ((pre.length : Nat) : Int).toNat = effEnc r ++ (effsEnc l).take (k - (effEnc r).length) := by
        rw [Int.toNat_natCast, List.drop_left, et]
      rw [List.length_cons, decEs, e, deff_enc hr, if_neg (by simp)]
      simp only
      rw [et, ← List.append_assoc, ← Int.natCast_add, ← List.length_append]
      exact ih

theorem decU_cut {c q t : Int} {l : List (List Cell)} (h : vUpd c q t l = 0) (hn : l.all (fun e => okI (nr e 3)) = true) {k : Nat} (hk : k < (encU c q t l).length) : (decU ((encU c q t l).take k)).2.2.2.2.2 = 1 := by
  obtain ⟨h1, h2, h3, h4, h5, h6, h7, h8, h9⟩ := vUpd_ok h
  have hs := headU_small h
  have hg := good_all h hn
  rw [encU, List.length_append] at hk
  unfold decU
  by_cases hk1 : k < (encL (headU c q t l.length)).length
  · have e : (encU c q t l).take k = [] ++ (encL (headU c q t l.length)).take k := by
      rw [encU, List.take_append_of_le_length (by omega), List.nil_append]
    have e3 : rread ([] ++ (encL (headU c q t l.length)).take k) 4 = ([], 0, 1) := rread_cut (headU c q t l.length) [] [] k hs hk1
    rw [e, e3, if_pos (by simp)]
  · have et : (encU c q t l).take k = encL (headU c q t l.length) ++ (effsEnc l).take (k - (encL (headU c q t l.length)).length) := by
      rw [encU, List.take_append, List.take_of_length_le (by omega)]
    have e3 : rread ((encU c q t l).take k) 4 = ((headU c q t l.length).map reNum, ((encL (headU c q t l.length)).length : Int), 0) := by
      have := rread_enc ((effsEnc l).take (k - (encL (headU c q t l.length)).length)) (headU c q t l.length) [] [] hs
      rw [et]
      simpa [rread, headU] using this
    have e4 := decEs_cut l (encL (headU c q t l.length)) [] (k - (encL (headU c q t l.length)).length) hg (by omega)
    rw [← et] at e4
    rw [e3, if_neg (by simp)]
    have k0 : nr (Abs.rowAt ((headU c q t l.length).map reNum) 0) 0 = c := rfl
    have k1 : nr (Abs.rowAt ((headU c q t l.length).map reNum) 1) 0 = q := rfl
    have k2 : nr (Abs.rowAt ((headU c q t l.length).map reNum) 2) 0 = t := rfl
    have k3 : nr (Abs.rowAt ((headU c q t l.length).map reNum) 3) 0 = (l.length : Int) := rfl
    simp only [k0, k1, k2, k3, Int.toNat_natCast]
    rw [if_neg (by omega)]
    unfold finU
    rw [if_pos (by rw [e4]; simp)]
    exact e4

def encR (r : List Cell) : List (List Cell) := encU (nr r 0) (nr r 1) (nr r 2) (nl r 3)

def encAll : List (List Cell) → List (List Cell)
  | [] => []
  | r :: rs => encR r ++ encAll rs

theorem encAll_app : ∀ (x y : List (List Cell)), encAll (x ++ y) = encAll x ++ encAll y
  | [], _ => rfl
  | r :: x, y => by rw [List.cons_append, encAll, encAll, encAll_app x y, List.append_assoc]

theorem encAll_okB : ∀ (x : List (List Cell)), (∀ r ∈ x, okUpd r) → okB (encAll x) = true
  | [], _ => rfl
  | r :: x, h => okB_app (encU_okB _ _ _ (h r List.mem_cons_self).2) (encAll_okB x (fun q hq => h q (List.mem_cons_of_mem _ hq)))

theorem encR_len {r : List Cell} (h : okUpd r) : (encR r).length ≤ 2000 := by
  have := encU_len (nr r 0) (nr r 1) (nr r 2) (good_short h.1 h.2)
  have := (vUpd_ok h.1).2.2.2.2.2.2.2.1
  unfold encR
  omega

theorem encAll_len : ∀ (x : List (List Cell)), (∀ r ∈ x, okUpd r) → (encAll x).length ≤ 2000 * x.length
  | [], _ => by simp [encAll]
  | r :: x, h => by
    have := encR_len (h r (List.mem_cons_self))
    have := encAll_len x (fun q hq => h q (List.mem_cons_of_mem _ hq))
    simp only [encAll, List.length_append, List.length_cons]
    omega

theorem encR_pos (r : List Cell) : 1 ≤ (encR r).length := by
  unfold encR encU headU
  simp only [encL, List.length_append]
  have := uenc_pos (IntKind.u64.wrap (nr [Cell.int IntKind.i64 (nr r 0)] 0))
  omega

theorem l9a (c : List (List Cell)) (hc : (∀ r ∈ c, okUpd r) ∧ c.length ≤ 72) (cut : Int) (R : List AV × List Block)
    (hr : ∃ m, goF E (callOf L8) F9 0 m P9_1 (M9_1 cut c (encAll c) 0 0) = some R) : ∀ (d i : Nat), i + d = c.length →
    ∃ m, goF E (callOf L8) F9 0 m P9_0 (M9_0 cut c (encAll (c.take i)) i) = some R
  | 0, i, hi => by
    obtain ⟨m, hm⟩ := hr
    refine ⟨m + 1, ?_⟩
    rw [e9_0, List.take_of_length_le (by omega)]
    exact cf (decide_eq_false (by omega)) hm
  | d + 1, i, hi => by
    obtain ⟨m, hm⟩ := l9a c hc cut R hr d (i + 1) (by omega)
    have hok := hc.1 (Abs.rowAt c i) (by rw [rowAt_eq (show i < c.length by omega)]; exact List.getElem_mem _)
    have hl := encAll_len (c.take i) (fun r hr => hc.1 r (List.mem_of_mem_take hr))
    rw [List.length_take] at hl
    have h6 := (vUpd_ok hok.1).2.2.2.2.2.2.2.1
    refine ⟨m + 1, ?_⟩
    rw [e9_0, Int.toNat_natCast]
    refine ct (decide_eq_true (by omega)) (ct (inB_nat' (by omega)) (ct ?_ ?_))
    · unfold okApp
      simp only [Bool.and_eq_true, decide_eq_true_eq]
      exact ⟨by omega, by omega, good_short hok.1 hok.2⟩
    · rw [nat_wrap (n := c.length) (by omega) (by omega)]
      rw [take_snoc c i (by omega), encAll_app] at hm
      simp only [encAll, List.append_nil] at hm
      exact hm

theorem l9b (c : List (List Cell)) (hc : (∀ r ∈ c, okUpd r) ∧ c.length ≤ 72) (cut : Int) (h0 : 0 ≤ cut) (h1 : cut ≤ 65535) : ∀ (d i : Nat), i + d = c.length →
    ∃ m, goF E (callOf L8) F9 0 m P9_1 (M9_1 cut c (encAll c) ((encAll (c.take i)).length : Int) i) = some ([.one (.bool true)], [])
  | 0, i, hi => by
    refine ⟨1, ?_⟩
    rw [e9_1, List.take_of_length_le (by omega)]
    exact cf (decide_eq_false (by omega)) (ct (by simp) rfl)
  | d + 1, i, hi => by
    obtain ⟨m, hm⟩ := l9b c hc cut h0 h1 d (i + 1) (by omega)
    have hi' : i < c.length := by omega
    have hok := hc.1 (Abs.rowAt c i) (by rw [rowAt_eq hi']; exact List.getElem_mem _)
    have hlen := encAll_len c hc.1
    have e : encAll c = encAll (c.take i) ++ (encR (Abs.rowAt c i) ++ encAll (c.drop (i + 1))) := by
      have : c = c.take i ++ (Abs.rowAt c i :: c.drop (i + 1)) := by rw [← drop_cons c i hi', List.take_append_drop]
      conv => lhs; rw [this]
      rw [encAll_app, encAll]
    have ed : (encAll c).drop (encAll (c.take i)).length = encR (Abs.rowAt c i) ++ encAll (c.drop (i + 1)) := by
      rw [e, List.drop_left]
    have hdec := decU_enc hok.1 hok.2 (encAll (c.drop (i + 1)))
    have hp := encR_pos (Abs.rowAt c i)
    have hL : (encAll c).length = (encAll (c.take i)).length + ((encR (Abs.rowAt c i)).length + (encAll (c.drop (i + 1))).length) := by
      rw [e]; simp
    have hb : okB (encAll c) = true := encAll_okB c hc.1
    rw [take_snoc c i hi', encAll_app] at hm
    simp only [encAll, List.append_nil, List.length_append] at hm
    have hmod0 := Int.emod_nonneg cut (show ((encR (Abs.rowAt c i)).length : Int) ≠ 0 by omega)
    have hmod1 := Int.emod_lt_of_pos cut (show (0 : Int) < (encR (Abs.rowAt c i)).length by omega)
    have hcut := decU_cut hok.1 hok.2 (k := (cut % ((encR (Abs.rowAt c i)).length : Int)).toNat) (by show _ < (encR (Abs.rowAt c i)).length; omega)
    refine ⟨m + 1, ?_⟩
    have hsub : subL (encAll c) (encAll (c.take i)).length ((encAll (c.take i)).length + (cut % ((encR (Abs.rowAt c i)).length : Int)).toNat) = (encR (Abs.rowAt c i)).take (cut % ((encR (Abs.rowAt c i)).length : Int)).toNat := by
      unfold subL
      rw [takeN_eq, dropN_eq, List.drop_take, ed, Nat.add_sub_cancel_left, List.take_append_of_le_length (by omega)]
    have hrd1 : okRd ((encAll c).drop (encAll (c.take i)).length) = true := okRd_mk (okB_drop hb _) (by simp; omega)
    rw [e9_1, Int.toNat_natCast, Int.toNat_natCast, dropN_eq]
    rw [ed] at hrd1 ⊢
    rw [show encR (Abs.rowAt c i) = encU (nr (Abs.rowAt c i) 0) (nr (Abs.rowAt c i) 1) (nr (Abs.rowAt c i) 2) (nl (Abs.rowAt c i) 3) from rfl] at *
    rw [hdec]
    generalize encU (nr (Abs.rowAt c i) 0) (nr (Abs.rowAt c i) 1) (nr (Abs.rowAt c i) 2) (nl (Abs.rowAt c i) 3) = eR at *
    rw [wrap64 (n := cut) (by omega) (by omega), Int.tmod_eq_emod_of_nonneg h0, wrap64 (n := ((encAll (c.take i)).length : Int) + cut % (eR.length : Int)) (by omega) (by omega), wrap64 (n := ((encAll (c.take i)).length : Int) + (eR.length : Int)) (by omega) (by omega)]
    have et : (((encAll (c.take i)).length : Int) + cut % (eR.length : Int)).toNat = (encAll (c.take i)).length + (cut % (eR.length : Int)).toNat := by omega
    rw [et, hsub]
    have hrd2 : okRd (eR.take (cut % (eR.length : Int)).toNat) = true := by
      rw [← hsub]
      unfold subL
      rw [takeN_eq, dropN_eq]
      exact okRd_mk (okB_drop (okB_take hb _) _) (by simp; omega)
    refine ct (decide_eq_true (by omega)) (ct (inB_nat' (by omega)) (ct hrd1 (cf (by simp) (cf (decide_eq_false (by simp only; omega)) (cf (decide_eq_false (by rw [wrap64 (by omega) (by omega)]; simp only; omega)) (ct (inB_nat' hi') (ct (decide_eq_true ?_) (cf ?_ (cf (decide_eq_false (by simp only; omega)) (ct (inB_of (by omega) (by omega)) (ct (inB_nat' (by omega)) (ct hrd2 (cf (by rw [hcut]; rfl) ?_)))))))))))))
    · have := (vUpd_ok hok.1).2.2.2.2.2.2.2.1
      simp only [List.length_map]
      omega
    · simp only [eqU_re2, Bool.not_true]
    · rw [show (i : Int) + 1 = ((i + 1 : Nat) : Int) by omega, wrap64 (by omega) (by omega)]
      exact hm

theorem law9 (l : List (List Cell)) (cut : Int) (hl : l.length < 4611686018427387904) (h0 : 0 ≤ cut) (h1 : cut ≤ 65535) : ∃ m, runF E (callOf L8) m 9 [.one (.sl false 3 l), .one (.int .u16 cut)] [] = some ([.one (.bool true)], []) := by
  have hp := gUpds_ok l
  obtain ⟨m, hm⟩ := l9a (gUpds l) hp cut _ (l9b (gUpds l) hp cut h0 h1 (gUpds l).length 0 (by omega)) (gUpds l).length 0 (by omega)
  refine ⟨m + 1, ?_⟩
  rw [e9]
  exact ct (decide_eq_true hl) hm

end Go.Proofs.Yteogaajjkcfeeaa
