/-
  The contracts of the functions of vectors.
-/
import Derived.Test.YtkfniijfenkocaaPureU
import Derived.Test.YtkfniijfenkocaaKeyedV
import Derived.Test.YtkfniijfenkocaaEq2
namespace Go.Proofs.Ytkfniijfenkocaa
open Go.Abs

theorem l58c : ∀ (k : Nat) (v : Int) (acc : List (List Cell)), 0 ≤ v → v < 128 ^ k → v < 18446744073709551616 → 1 ≤ k → acc.length + k ≤ 1000 →
    ∃ m, goF E (callOf L51) F58 0 m P58_0_c1 (M58_0_c1 [] v acc) = some ([.one (.sl true 5 (acc ++ uencF k v))], [])
  | 0, _, _, _, _, _, h, _ => by omega
  | k + 1, v, acc, h0, h1, h2, _, hl => by
    by_cases hs : v < 128
    · refine ⟨1, ?_⟩
      rw [e58_0_c1]
      refine cf (decide_eq_false (by omega)) (ct (fits_of (by simp; omega)) (ct (inB_nat' (by simp)) (ct (by simp) (ct (fits_of (by simp [takeN_eq]; omega)) ?_))))
      rw [takeN_eq, Int.toNat_natCast, List.take_length, wrap8 (by omega) (by omega), uencF, if_pos hs, List.nil_append]
    · have hk : 1 ≤ k := by
        cases k with
        | zero => simp at h1; omega
        | succ k => omega
      obtain ⟨m, hm⟩ := l58c k (v / 128) (acc ++ [[.int .u8 (v % 128 + 128)]]) (by omega) (by rw [Int.pow_succ] at h1; omega) (by omega) hk (by simp; omega)
      refine ⟨m + 1, ?_⟩
      rw [e58_0_c1]
      refine ct (decide_eq_true (by omega)) (ct (fits_of (by simp; omega)) ?_)
      have e : orI .u8 (IntKind.wrap .u8 v) 128 = v % 128 + 128 := by
        rw [wrapu8_eq, or8 (by omega) (by omega)]
        omega
      rw [e, shr7, hm, uencF, if_neg hs, List.append_assoc]
      rfl

theorem okU_of {v : Int} (h : okU v = true) : 0 ≤ v ∧ v < 18446744073709551616 := by
  unfold okU at h
  have h := eq_of_beq h
  omega

theorem okU_mk {v : Int} (h0 : 0 ≤ v) (h1 : v < 18446744073709551616) : okU v = true := by
  unfold okU
  exact beq_iff_eq.2 (by omega)

theorem k58c (v : Int) (h : okU v = true) : ∃ m, runF E (callOf L51) m 58 [.one .nils, .one (.int .u64 v)] [] = some ([.one (.sl true 5 (uenc v))], []) := by
  obtain ⟨h0, h1⟩ := okU_of h
  obtain ⟨m, hm⟩ := l58c 10 v [] h0 (pow10 h1) h1 (by omega) (by simp)
  exact ⟨m + 1, by rw [e58_c1]; exact hm⟩

theorem enc_one (n : Nat) (h : n ≤ 1000) : encL [[Cell.int .i64 (n : Int)]] = uenc (n : Int) := by
  have e : nr [Cell.int .i64 (n : Int)] 0 = (n : Int) := rfl
  rw [encL, encL, List.append_nil, e, wrapu (by omega) (by omega)]

theorem blt_mk {a b : Nat} (h : a < b) : Nat.blt a b = true := by
  rw [Nat.blt_eq]
  exact h

theorem len_snoc (v : List (List Cell)) (x : List Cell) : (v ++ [x]).length = v.length + [x].length := by simp

theorem isNilL_pos {l : List (List Cell)} (h : 0 < l.length) : isNilL l = false := by
  cases l with
  | nil => simp at h
  | cons _ _ => rfl

theorem okLn_of {c : List (List Cell)} (h : okLn c = true) : c.length ≤ 1000 := by simpa [okLn] using h

theorem okLn_mk {c : List (List Cell)} (h : c.length ≤ 1000) : okLn c = true := by simpa [okLn] using h

theorem okSrt_of {c : List (List Cell)} (h : okSrt c = true) : c.length ≤ 1000 ∧ Asc c := by
  unfold okSrt at h
  simp only [Bool.and_eq_true] at h
  exact ⟨okLn_of h.1, ascB_of h.2⟩

theorem okVec_of {c : List (List Cell)} (h : okVec c = true) : c.length ≤ 1000 ∧ AscV c := by
  unfold okVec at h
  simp only [Bool.and_eq_true] at h
  exact ⟨okLn_of h.1, of_decide_eq_true h.2⟩

theorem okVec_mk {c : List (List Cell)} (h : c.length ≤ 1000) (h2 : AscV c) : okVec c = true := by
  unfold okVec
  simp only [Bool.and_eq_true]
  exact ⟨okLn_mk h, decide_eq_true h2⟩

theorem okSrt_mk {c : List (List Cell)} (h : c.length ≤ 1000) (h2 : Asc c) : okSrt c = true := by
  unfold okSrt
  simp only [Bool.and_eq_true]
  exact ⟨okLn_mk h, ascB_mk h2⟩

theorem rowAt_mem {l : List (List Cell)} {i : Nat} (h : i < l.length) : Abs.rowAt l i ∈ l := by
  rw [rowAt_eq h]
  exact List.getElem_mem h

theorem mid_eq {i j : Nat} (h : i + j < 4611686018427387904) : IntKind.wrap .i64 (shrI .u64 (IntKind.wrap .u64 (IntKind.wrap .i64 ((i : Int) + (j : Int)))) 1) = (((i + j) / 2 : Nat) : Int) := by
  rw [wrap64 (n := (i : Int) + (j : Int)) (by omega) (by omega), wrapu (by omega) (by omega)]
  have e : shrI .u64 ((i : Int) + (j : Int)) 1 = (((i + j) / 2 : Nat) : Int) := by
    unfold shrI
    have e1 : min (Int.toNat 1) IntKind.u64.bits = 1 := by decide
    rw [e1, Int.fdiv_eq_ediv_of_nonneg _ (by decide)]
    omega
  rw [e, wrap64 (by omega) (by omega)]

theorem k95 (u k a : Int) : runF E (callOf L25) 1 95 [.agg [.int .i64 u, .int .i64 k], .one (.int .i64 a)] [] = some ([.one (.int .i64 (cmpI u a))], []) := by
  rw [e95]

theorem cmpI_lt (u a : Int) : decide (cmpI u a < 0) = decide (u < a) := by
  unfold cmpI
  rw [Bool.eq_iff_iff, decide_eq_true_eq, decide_eq_true_eq]
  (repeat' split) <;> omega

theorem cmpI_eq (u a : Int) : (cmpI u a == 0) = decide (u = a) := by
  unfold cmpI
  rw [Bool.eq_iff_iff, beq_iff_eq, decide_eq_true_eq]
  (repeat' split) <;> omega

theorem l94 (c : List (List Cell)) (a : Int) (hc : c.length ≤ 1000) (ha : AscV c) : ∀ (d i j : Nat), j - i ≤ d → i ≤ lowV c a → lowV c a ≤ j → j ≤ c.length →
    ∃ m, goF E (callOf L95) F94 0 m P94_0 (M94_0 c a c.length i j) = some ([.one (.int .i64 (lowV c a : Int)), .one (.bool (hasV c a))], []) := by
  intro d
  induction d with
  | zero =>
    intro i j hd h1 h2 h3
    have hi : i = lowV c a := by omega
    subst hi
    refine ⟨1, ?_⟩
    rw [e94_0, hasV_low ha]
    refine cf (decide_eq_false (by omega)) ?_
    by_cases hl : lowV c a < c.length
    · refine ct (decide_eq_true (by omega)) (ct (inB_nat' hl) ?_)
      rw [Int.toNat_natCast, decide_eq_true hl, Bool.true_and, ← cmpI_eq]
    · rw [decide_eq_false hl, Bool.false_and]
      exact cf (decide_eq_false (by omega)) rfl
  | succ d ih =>
    intro i j hd h1 h2 h3
    by_cases hij : i < j
    · have hlt : (i + j) / 2 < c.length := by omega
      have hcmp := cmpI_lt (nr (Abs.rowAt c ((i + j) / 2)) 0) a
      by_cases hk : nr (Abs.rowAt c ((i + j) / 2)) 0 < a
      · have hlo : (i + j) / 2 < lowV c a := Nat.lt_of_not_le fun hle => lowV_ge ha hlt hle hk
        obtain ⟨m, hm⟩ := ih ((i + j) / 2 + 1) j (by omega) (by omega) h2 h3
        refine ⟨m + 1, ?_⟩
        rw [e94_0, mid_eq (by omega), Int.toNat_natCast]
        refine ct (decide_eq_true (by omega)) (ct (inB_nat' hlt) (ct (hcmp.trans (decide_eq_true hk)) ?_))
        rw [nat_wrap (n := c.length) hlt (by omega)]
        exact hm
      · have hlo : lowV c a ≤ (i + j) / 2 := Nat.le_of_not_lt fun h => hk (lowV_lt h)
        obtain ⟨m, hm⟩ := ih i ((i + j) / 2) (by omega) h1 hlo (by omega)
        refine ⟨m + 1, ?_⟩
        rw [e94_0, mid_eq (by omega), Int.toNat_natCast]
        exact ct (decide_eq_true (by omega)) (ct (inB_nat' hlt) (cf (hcmp.trans (decide_eq_false hk)) hm))
    · exact ih i j (by omega) h1 h2 h3

theorem k94 (c : List (List Cell)) (a : Int) (h : okVec c = true) : ∃ m, runF E (callOf L95) m 94 [.one (.sl false 65 c), .one (.int .i64 a), .one (.fn 95 [])] [] = some ([.one (.int .i64 (lowV c a : Int)), .one (.bool (hasV c a))], []) := by
  obtain ⟨h1, h2⟩ := okVec_of h
  obtain ⟨m, hm⟩ := l94 c a h1 h2 c.length 0 c.length (by omega) (by omega) (lowV_le _ _) (by omega)
  exact ⟨m + 1, by rw [e94]; exact hm⟩

theorem k77 (c : List (List Cell)) (a : Int) (h : okVec c = true) : runF E (callOf L94) 1 77 [.one (.sl false 65 c), .one (.int .i64 a)] [] = some ([.one (.int .i64 (lowV c a : Int)), .one (.bool (hasV c a))], []) := by
  rw [e77]
  exact ct h rfl

theorem k57 (c : List (List Cell)) (a : Int) (h : okVec c = true) : runF E (callOf L77) 1 57 [.one (.sl false 65 c), .one (.int .i64 a)] [] = some ([.one (.int .i64 (cntV c a))], []) := by
  obtain ⟨h1, h2⟩ := okVec_of h
  rw [e57, Int.toNat_natCast]
  refine ct h ?_
  by_cases hh : hasV c a = true
  · have := hasV_low h2 a
    rw [hh] at this
    have := this.symm
    simp only [Bool.and_eq_true, decide_eq_true_eq] at this
    rw [cntV_low h2 hh]
    exact ct hh (ct (inB_nat' this.1) rfl)
  · have hh : hasV c a = false := by simpa using hh
    rw [cntV_not hh]
    exact cf hh rfl

/-- entries that have been counted -/
def CntOk (v : List (List Cell)) (k : Nat) : Prop := ∀ e ∈ v, isEn e = true ∧ 0 ≤ nr e 1 ∧ nr e 1 ≤ k

theorem cnt_mono {v : List (List Cell)} {k j : Nat} (h : CntOk v k) (hj : k ≤ j) : CntOk v j := fun e he => by
  have := h e he
  exact ⟨this.1, this.2.1, by omega⟩

theorem isEn_eq {r : List Cell} (h : isEn r = true) : r = ent (nr r 0) (nr r 1) := by
  unfold isEn at h
  split at h
  · rfl
  · cases h

theorem set_last {v : List (List Cell)} (h : 0 < v.length) (x : List Cell) : v.set (v.length - 1) x = v.take (v.length - 1) ++ [x] := by
  rw [List.set_eq_take_append_cons_drop, if_pos (by omega)]
  rw [show v.length - 1 + 1 = v.length by omega, List.drop_length]

theorem vstep_cnt {v : List (List Cell)} {k : Nat} (h : CntOk v k) (a : Int) : CntOk (vstep v a) (k + 1) := by
  unfold vstep
  split
  · rename_i hh
    intro e he
    rcases List.mem_append.1 he with he | he
    · exact cnt_mono h (Nat.le_succ k) e (List.mem_of_mem_take he)
    · rw [List.mem_singleton] at he
      subst he
      have := h _ (rowAt_mem (l := v) (i := v.length - 1) (by omega))
      refine ⟨rfl, ?_, ?_⟩
      · show 0 ≤ nr (Abs.rowAt v (v.length - 1)) 1 + 1
        omega
      · show nr (Abs.rowAt v (v.length - 1)) 1 + 1 ≤ _
        omega
  · intro e he
    rcases List.mem_append.1 he with he | he
    · exact cnt_mono h (Nat.le_succ k) e he
    · rw [List.mem_singleton] at he
      subst he
      have e1 : nr (ent a 1) 1 = 1 := rfl
      refine ⟨rfl, ?_, ?_⟩ <;> rw [e1] <;> omega

theorem vstep_len (v : List (List Cell)) (a : Int) : (vstep v a).length ≤ v.length + 1 := by
  unfold vstep
  split <;> simp <;> omega

theorem setCells_en {e : List Cell} (h : isEn e = true) (x : Int) : setCells e 1 [Cell.int .i64 x] = ent (nr e 0) x := by
  unfold isEn at h
  split at h
  · rfl
  · cases h

theorem insK_len : ∀ (l : List (List Cell)) (p : List Cell), (insK l p).length ≤ l.length + 1
  | [], _ => by simp [insK]
  | q :: l, p => by
    unfold insK
    have := insK_len l p
    split
    · simp
    · split
      · simp
      · simp; omega

theorem vecF_inv : ∀ (c v : List (List Cell)) (k : Nat), CntOk v k → CntOk (vecF v c) (k + c.length) ∧ (vecF v c).length ≤ v.length + c.length
  | [], v, k, h => ⟨h, Nat.le_refl _⟩
  | r :: c, v, k, h => by
    have := vecF_inv c (vstep v (nr r 0)) (k + 1) (vstep_cnt h _)
    have hl := vstep_len v (nr r 0)
    show CntOk (vecF (vstep v (nr r 0)) c) _ ∧ _
    simp only [List.length_cons]
    refine ⟨cnt_mono this.1 (by omega), ?_⟩
    show (vecF (vstep v (nr r 0)) c).length ≤ _
    omega

theorem vecK_cnt (c : List (List Cell)) : CntOk (vecK c) c.length ∧ (vecK c).length ≤ c.length := by
  have := vecF_inv c [] 0 (fun e he => by cases he)
  simpa [vecK] using this

theorem cntV_bound {v : List (List Cell)} {k : Nat} (h : CntOk v k) (a : Int) : 0 ≤ cntV v a ∧ cntV v a ≤ k := by
  induction v with
  | nil => simp [cntV]
  | cons e v ih =>
    unfold cntV
    split
    · exact (h e List.mem_cons_self).2
    · exact ih fun x hx => h x (List.mem_cons_of_mem _ hx)

theorem mrgF_nilr (n : Nat) (a : List (List Cell)) (h : a.length < n) : mrgF n a [] = a := by
  cases n with
  | zero => omega
  | succ n => cases a <;> rfl

theorem l46 (v : List (List Cell)) (a : Int) (hv : v.length ≤ 1000) : ∀ (d i : Nat), i + d = v.length →
    ∃ m, goF E (callOf L57) F46 0 m P46_0 (M46_0 v a i) = some ([.one (.int .i64 (cntV (v.drop i) a))], [])
  | 0, i, hi => by
    refine ⟨1, ?_⟩
    have : v.drop i = [] := List.drop_eq_nil_of_le (by omega)
    rw [e46_0, this]
    exact cf (decide_eq_false (by omega)) rfl
  | d + 1, i, hi => by
    have hi' : i < v.length := by omega
    obtain ⟨m, hm⟩ := l46 v a hv d (i + 1) (by omega)
    refine ⟨m + 1, ?_⟩
    rw [e46_0, Int.toNat_natCast, drop_cons v i hi', cntV, nat_wrap (n := v.length) hi' (by omega), hm]
    refine ct (decide_eq_true (by omega)) (ct (inB_nat' hi') ?_)
    by_cases h : nr (Abs.rowAt v i) 0 = a
    · rw [if_pos h]
      exact ct (beq_iff_eq.2 h) (ct (inB_nat' hi') rfl)
    · rw [if_neg h]
      exact cf (beq_eq_false_iff_ne.2 h) rfl

theorem k46 (v : List (List Cell)) (a : Int) (h : okLn v = true) : ∃ m, runF E (callOf L57) m 46 [.one (.sl false 65 v), .one (.int .i64 a)] [] = some ([.one (.int .i64 (cntV v a))], []) := by
  obtain ⟨m, hm⟩ := l46 v a (okLn_of h) v.length 0 (by omega)
  exact ⟨m + 1, by rw [e46]; exact hm⟩

theorem en_at {v : List (List Cell)} (h : v.all isEn = true) {i : Nat} (hi : i < v.length) : [Cell.int .i64 (nr (Abs.rowAt v i) 0), Cell.int .i64 (nr (Abs.rowAt v i) 1)] = Abs.rowAt v i :=
  (isEn_eq (List.all_eq_true.1 h _ (rowAt_mem hi))).symm

theorem l45 (v : List (List Cell)) (a k : Int) (hv : v.length ≤ 100000) (he : v.all isEn = true) : ∀ (d i : Nat) (p : Bool) (acc : List (List Cell)), i + d = v.length → acc.length ≤ i + (cond p 1 0) →
    ∃ m, goF E (callOf L46) F45 0 m P45_0 (M45_0 v a k acc p i) = some ([.one (.sl false 65 (acc ++ withF a k p (v.drop i)))], [])
  | 0, i, p, acc, hi, ha => by
    have ha' : acc.length ≤ i + 1 := by cases p <;> simp at ha <;> omega
    refine ⟨1, ?_⟩
    have : v.drop i = [] := List.drop_eq_nil_of_le (by omega)
    rw [e45_0, this]
    refine cf (decide_eq_false (by omega)) ?_
    cases p with
    | false => exact ct rfl (ct (fits_of (by simp; omega)) rfl)
    | true =>
      refine cf rfl ?_
      simp [withF]
  | d + 1, i, p, acc, hi, ha => by
    have ha' : acc.length ≤ i + 1 := by cases p <;> simp at ha <;> omega
    have hi' : i < v.length := by omega
    have hib := inB_nat' hi'
    have hen := en_at he hi'
    have hf1 : ∀ r : List Cell, fits (acc.length + [r].length) = true := fun r => fits_of (by simp; omega)
    have hf2 : ∀ r q : List Cell, fits ((acc ++ [r]).length + [q].length) = true := fun r q => fits_of (by simp; omega)
    have hw : IntKind.wrap .i64 ((i : Int) + 1) = ((i + 1 : Nat) : Int) := nat_wrap hi' (by omega)
    have hd := drop_cons v i hi'
    -- the entry is copied, or passed over
    have tailc : ∀ (q : Bool), acc.length ≤ i + (cond q 1 0) → ∃ m, cond (inB (i : Int) v.length) (cond ((nr (Abs.rowAt v i) 0) != a) (cond (inB (i : Int) v.length) (cond (fits (acc.length + [Abs.rowAt v i].length))
        (goF E (callOf L46) F45 0 m P45_0 (M45_0 v a k (acc ++ [Abs.rowAt v i]) q ((i + 1 : Nat) : Int))) none) none) (goF E (callOf L46) F45 0 m P45_0 (M45_0 v a k acc q ((i + 1 : Nat) : Int)))) none =
        some ([.one (.sl false 65 (acc ++ (if nr (Abs.rowAt v i) 0 = a then withF a k q (v.drop (i + 1)) else Abs.rowAt v i :: withF a k q (v.drop (i + 1)))))], []) := fun q hq => by
      by_cases h : nr (Abs.rowAt v i) 0 = a
      · obtain ⟨m, hm⟩ := l45 v a k hv he d (i + 1) q acc (by omega) (by cases q <;> simp at hq ⊢ <;> omega)
        refine ⟨m, ?_⟩
        rw [if_pos h]
        exact ct hib (cf (bne_eq_false_iff_eq.2 h) hm)
      · obtain ⟨m, hm⟩ := l45 v a k hv he d (i + 1) q (acc ++ [Abs.rowAt v i]) (by omega) (by cases q <;> simp at hq ⊢ <;> omega)
        refine ⟨m, ?_⟩
        rw [if_neg h]
        rw [List.append_assoc] at hm
        exact ct hib (ct (bne_iff_ne.2 h) (ct hib (ct (hf1 _) hm)))
    cases p with
    | true =>
      obtain ⟨m, hm⟩ := tailc true ha
      refine ⟨m + 1, ?_⟩
      rw [e45_0, Int.toNat_natCast, hen, hw, hd, withF, if_neg (by simp)]
      exact ct (decide_eq_true (by omega)) (cf rfl hm)
    | false =>
      by_cases hge : a ≤ nr (Abs.rowAt v i) 0
      · by_cases h : nr (Abs.rowAt v i) 0 = a
        · obtain ⟨m, hm⟩ := l45 v a k hv he d (i + 1) true (acc ++ [ent a k]) (by omega) (by simp at ha ⊢; omega)
          refine ⟨m + 1, ?_⟩
          rw [e45_0, Int.toNat_natCast, hen, hw, hd, withF, if_pos ⟨rfl, hge⟩, if_pos h]
          rw [List.append_assoc] at hm
          exact ct (decide_eq_true (by omega)) (ct rfl (ct hib (ct (decide_eq_true hge) (ct (hf1 _) (ct hib (cf (bne_eq_false_iff_eq.2 h) hm))))))
        · obtain ⟨m, hm⟩ := l45 v a k hv he d (i + 1) true ((acc ++ [ent a k]) ++ [Abs.rowAt v i]) (by omega) (by simp at ha ⊢; omega)
          refine ⟨m + 1, ?_⟩
          rw [e45_0, Int.toNat_natCast, hen, hw, hd, withF, if_pos ⟨rfl, hge⟩, if_neg h]
          rw [List.append_assoc, List.append_assoc] at hm
          refine ct (decide_eq_true (by omega)) (ct rfl (ct hib (ct (decide_eq_true hge) (ct (hf1 _) (ct hib (ct (bne_iff_ne.2 h) (ct hib (ct (hf2 _ _) ?_))))))))
          rw [← List.append_assoc] at hm
          exact hm
      · obtain ⟨m, hm⟩ := tailc false ha
        refine ⟨m + 1, ?_⟩
        rw [e45_0, Int.toNat_natCast, hen, hw, hd, withF, if_neg (fun hh => hge hh.2)]
        exact ct (decide_eq_true (by omega)) (ct rfl (ct hib (cf (decide_eq_false hge) hm)))

theorem okEv_of {v : List (List Cell)} (h : okEv v = true) : v.length ≤ 100000 ∧ v.all isEn = true := by
  unfold okEv at h
  simp only [Bool.and_eq_true, decide_eq_true_eq] at h
  exact h

theorem k45 (v : List (List Cell)) (a k : Int) (h : okEv v = true) : ∃ m, runF E (callOf L46) m 45 [.one (.sl false 65 v), .one (.int .i64 a), .one (.int .i64 k)] [] = some ([.one (.sl false 65 (withV v a k))], []) := by
  obtain ⟨h1, h2⟩ := okEv_of h
  unfold withV
  by_cases g1 : a < 1
  · exact ⟨1, by rw [e45, if_pos (.inl g1)]; exact ct (decide_eq_true g1) rfl⟩
  · by_cases g2 : k < 0
    · exact ⟨1, by rw [e45, if_pos (.inr (.inl g2))]; exact cf (decide_eq_false g1) (ct (decide_eq_true g2) rfl)⟩
    · by_cases g3 : 1000000 < k
      · exact ⟨1, by rw [e45, if_pos (.inr (.inr g3))]; exact cf (decide_eq_false g1) (cf (decide_eq_false g2) (ct (decide_eq_true g3) rfl))⟩
      · obtain ⟨m, hm⟩ := l45 v a k h1 h2 v.length 0 (decide (k = 0)) [] (by omega) (by simp)
        refine ⟨m + 1, ?_⟩
        have e : (k == 0) = decide (k = 0) := by rw [Bool.eq_iff_iff, beq_iff_eq, decide_eq_true_eq]
        rw [e45, if_neg (fun hh => by omega), e]
        exact cf (decide_eq_false g1) (cf (decide_eq_false g2) (cf (decide_eq_false g3) hm))

theorem withF_ok {a k : Int} (hk0 : 0 ≤ k) (hk : k ≤ 1000000) : ∀ (v : List (List Cell)) (p : Bool), CntOk v 1000000 → CntOk (withF a k p v) 1000000 ∧ (withF a k p v).length ≤ v.length + 1 ∧ (p = true → (withF a k p v).length ≤ v.length)
  | [], p, h => by
    cases p
    · refine ⟨fun e he => ?_, by simp [withF], by simp⟩
      simp only [withF, Bool.false_eq_true, if_false, List.mem_singleton] at he
      subst he
      exact ⟨rfl, hk0, hk⟩
    · exact ⟨h, by simp [withF], by simp [withF]⟩
  | e :: v, p, h => by
    have he := h e List.mem_cons_self
    have hv : CntOk v 1000000 := fun x hx => h x (List.mem_cons_of_mem _ hx)
    have h1 := withF_ok (a := a) hk0 hk v true hv
    have h2 := withF_ok (a := a) hk0 hk v p hv
    unfold withF
    split
    · rename_i hp
      split
      · refine ⟨fun x hx => ?_, ?_, fun hh => by rw [hp.1] at hh; cases hh⟩
        · rcases List.mem_cons.1 hx with rfl | hx
          · exact ⟨rfl, hk0, hk⟩
          · exact h1.1 x hx
        · have := h1.2.2 rfl
          simp only [List.length_cons]
          omega
      · refine ⟨fun x hx => ?_, ?_, fun hh => by rw [hp.1] at hh; cases hh⟩
        · rcases List.mem_cons.1 hx with rfl | hx
          · exact ⟨rfl, hk0, hk⟩
          · rcases List.mem_cons.1 hx with rfl | hx
            · exact he
            · exact h1.1 x hx
        · have := h1.2.2 rfl
          simp only [List.length_cons]
          omega
    · split
      · refine ⟨h2.1, ?_, fun hh => ?_⟩
        · have := h2.2.1
          simp only [List.length_cons]
          omega
        · have := h2.2.2 hh
          simp only [List.length_cons]
          omega
      · refine ⟨fun x hx => ?_, ?_, fun hh => ?_⟩
        · rcases List.mem_cons.1 hx with rfl | hx
          · exact he
          · exact h2.1 x hx
        · have := h2.2.1
          simp only [List.length_cons]
          omega
        · have := h2.2.2 hh
          simp only [List.length_cons]
          omega

theorem withV_ok {v : List (List Cell)} (h : CntOk v 1000000) (a k : Int) : CntOk (withV v a k) 1000000 ∧ (withV v a k).length ≤ v.length + 1 := by
  unfold withV
  split
  · exact ⟨h, by omega⟩
  · rename_i hh
    have := withF_ok (a := a) (k := k) (by omega) (by omega) v (decide (k = 0)) h
    exact ⟨this.1, this.2.1⟩

theorem cnt_en {v : List (List Cell)} {k : Nat} (h : CntOk v k) : v.all isEn = true := List.all_eq_true.2 fun e he => (h e he).1

theorem l16 (v w : List (List Cell)) (hv : v.length ≤ 1000) (hl : v.length = w.length) : ∀ (d i : Nat), i + d = v.length →
    ∃ m, goF E (callOf L45) F16 0 m P16_0 (M16_0 v w i) = some ([.one (.bool (eqVF (v.drop i) (w.drop i)))], [])
  | 0, i, hi => by
    refine ⟨1, ?_⟩
    have : v.drop i = [] := List.drop_eq_nil_of_le (by omega)
    rw [e16_0, this]
    exact cf (decide_eq_false (by omega)) rfl
  | d + 1, i, hi => by
    have hi' : i < v.length := by omega
    obtain ⟨m, hm⟩ := l16 v w hv hl d (i + 1) (by omega)
    refine ⟨m + 1, ?_⟩
    rw [e16_0, Int.toNat_natCast, drop_cons v i hi', eqVF, nat_wrap (n := v.length) hi' (by omega), hm, rowAt_drop, List.drop_drop, Nat.add_zero]
    refine ct (decide_eq_true (by omega)) (ct (inB_nat' hi') (ct (inB_nat' (by omega)) ?_))
    have e1 : ((nr (Abs.rowAt v i) 0) == (nr (Abs.rowAt w i) 0)) = decide (nr (Abs.rowAt v i) 0 = nr (Abs.rowAt w i) 0) := by rw [Bool.eq_iff_iff, beq_iff_eq, decide_eq_true_eq]
    have e2 : ((nr (Abs.rowAt v i) 1) == (nr (Abs.rowAt w i) 1)) = decide (nr (Abs.rowAt v i) 1 = nr (Abs.rowAt w i) 1) := by rw [Bool.eq_iff_iff, beq_iff_eq, decide_eq_true_eq]
    rw [e1, e2, Bool.and_true]
    cases (decide (nr (Abs.rowAt v i) 0 = nr (Abs.rowAt w i) 0) && decide (nr (Abs.rowAt v i) 1 = nr (Abs.rowAt w i) 1)) <;> rfl

theorem k16 (v w : List (List Cell)) (h : okLn v = true) : ∃ m, runF E (callOf L45) m 16 [.one (.sl false 65 v), .one (.sl false 65 w)] [] = some ([.one (.bool (eqVec v w))], []) := by
  unfold eqVec
  by_cases hl : v.length = w.length
  · obtain ⟨m, hm⟩ := l16 v w (okLn_of h) hl v.length 0 (by omega)
    refine ⟨m + 1, ?_⟩
    rw [e16, decide_eq_true hl]
    exact cf (bne_eq_false_iff_eq.2 (by omega)) hm
  · refine ⟨1, ?_⟩
    rw [e16, decide_eq_false hl]
    exact ct (bne_iff_ne.2 (by omega)) rfl

theorem okJn_of {v w : List (List Cell)} (h : okJn v w = true) : v.length + w.length ≤ 1000 ∧ v.all isEn = true := by
  unfold okJn at h
  simp only [Bool.and_eq_true, decide_eq_true_eq] at h
  exact h

theorem withF_en {a k : Int} : ∀ (v : List (List Cell)) (p : Bool), v.all isEn = true → (withF a k p v).all isEn = true ∧ (withF a k p v).length ≤ v.length + 1 ∧ (p = true → (withF a k p v).length ≤ v.length)
  | [], p, h => by
    cases p
    · exact ⟨rfl, by simp [withF], by simp⟩
    · exact ⟨h, by simp [withF], by simp [withF]⟩
  | e :: v, p, h => by
    rw [List.all_cons, Bool.and_eq_true] at h
    have h1 := withF_en (a := a) (k := k) v true h.2
    have h2 := withF_en (a := a) (k := k) v p h.2
    have he : isEn (ent a k) = true := rfl
    unfold withF
    split
    · rename_i hp
      have := h1.2.2 rfl
      split
      · refine ⟨by rw [List.all_cons, he, h1.1]; rfl, by simp only [List.length_cons]; omega, fun hh => by rw [hp.1] at hh; cases hh⟩
      · refine ⟨by rw [List.all_cons, List.all_cons, he, h.1, h1.1]; rfl, by simp only [List.length_cons]; omega, fun hh => by rw [hp.1] at hh; cases hh⟩
    · split
      · refine ⟨h2.1, ?_, fun hh => ?_⟩
        · have := h2.2.1
          simp only [List.length_cons]
          omega
        · have := h2.2.2 hh
          simp only [List.length_cons]
          omega
      · refine ⟨by rw [List.all_cons, h.1, h2.1]; rfl, ?_, fun hh => ?_⟩
        · have := h2.2.1
          simp only [List.length_cons]
          omega
        · have := h2.2.2 hh
          simp only [List.length_cons]
          omega

theorem withV_en {v : List (List Cell)} (h : v.all isEn = true) (a k : Int) : (withV v a k).all isEn = true ∧ (withV v a k).length ≤ v.length + 1 := by
  unfold withV
  split
  · exact ⟨h, by omega⟩
  · have := withF_en (a := a) (k := k) v (decide (k = 0)) h
    exact ⟨this.1, this.2.1⟩

theorem l27 (w : List (List Cell)) : ∀ (d i : Nat) (v : List (List Cell)), i + d = w.length → v.length + d ≤ 1000 → w.length ≤ 1000 → v.all isEn = true →
    ∃ m, goF E (callOf L16) F27 0 m P27_0 (M27_0 w v i) = some ([.one (.sl false 65 (joinF v (w.drop i)))], [])
  | 0, i, v, hi, hv, hw, he => by
    refine ⟨1, ?_⟩
    have : w.drop i = [] := List.drop_eq_nil_of_le (by omega)
    rw [e27_0, this]
    exact cf (decide_eq_false (by omega)) rfl
  | d + 1, i, v, hi, hv, hw, he => by
    have hi' : i < w.length := by omega
    have hib := inB_nat' hi'
    have hen := withV_en he (nr (Abs.rowAt w i) 0) (nr (Abs.rowAt w i) 1)
    by_cases hc : cntV v (nr (Abs.rowAt w i) 0) < nr (Abs.rowAt w i) 1
    · obtain ⟨m, hm⟩ := l27 w d (i + 1) (withV v (nr (Abs.rowAt w i) 0) (nr (Abs.rowAt w i) 1)) (by omega) (by omega) hw hen.1
      refine ⟨m + 1, ?_⟩
      have e1 : joinF v (w.drop i) = joinF (withV v (nr (Abs.rowAt w i) 0) (nr (Abs.rowAt w i) 1)) (w.drop (i + 1)) := by
        rw [drop_cons w i hi']
        unfold joinF
        rw [List.foldl_cons, if_pos hc]
      have hev : okEv v = true := by
        unfold okEv
        simp only [Bool.and_eq_true, decide_eq_true_eq]
        exact ⟨by omega, he⟩
      rw [e27_0, Int.toNat_natCast, e1, nat_wrap (n := w.length) hi' (by omega)]
      exact ct (decide_eq_true (by omega)) (ct hib (ct hib (ct (okLn_mk (by omega)) (ct (decide_eq_true hc) (ct hib (ct hib (ct hev hm)))))))
    · obtain ⟨m, hm⟩ := l27 w d (i + 1) v (by omega) (by omega) hw he
      refine ⟨m + 1, ?_⟩
      have e1 : joinF v (w.drop i) = joinF v (w.drop (i + 1)) := by
        rw [drop_cons w i hi']
        unfold joinF
        rw [List.foldl_cons, if_neg hc]
      rw [e27_0, Int.toNat_natCast, e1, nat_wrap (n := w.length) hi' (by omega)]
      exact ct (decide_eq_true (by omega)) (ct hib (ct hib (ct (okLn_mk (by omega)) (cf (decide_eq_false hc) hm))))

theorem k27 (v w : List (List Cell)) (h : okJn v w = true) : ∃ m, runF E (callOf L16) m 27 [.one (.sl false 65 v), .one (.sl false 65 w)] [] = some ([.one (.sl false 65 (joinV v w))], []) := by
  obtain ⟨h1, h2⟩ := okJn_of h
  obtain ⟨m, hm⟩ := l27 w w.length 0 v (by omega) (by omega) (by omega) h2
  exact ⟨m + 1, by rw [e27]; exact ct (fits_of (by simp; omega)) hm⟩

theorem min_if (x y : Int) : (if y < x then y else x) = min x y := by
  split <;> omega

theorem l28 (v w : List (List Cell)) (hv : v.length ≤ 1000) (hw : okLn w = true) : ∀ (d i : Nat), i + d = v.length →
    ∃ m, goF E (callOf L27) F28 0 m P28_0 (M28_0 v w i) = some ([.one (.bool (leV (v.drop i) w))], [])
  | 0, i, hi => by
    refine ⟨1, ?_⟩
    have : v.drop i = [] := List.drop_eq_nil_of_le (by omega)
    rw [e28_0, this]
    exact cf (decide_eq_false (by omega)) rfl
  | d + 1, i, hi => by
    have hi' : i < v.length := by omega
    have hib := inB_nat' hi'
    obtain ⟨m, hm⟩ := l28 v w hv hw d (i + 1) (by omega)
    refine ⟨m + 1, ?_⟩
    unfold leV at hm ⊢
    rw [e28_0, Int.toNat_natCast, drop_cons v i hi', List.all_cons, nat_wrap (n := v.length) hi' (by omega), hm]
    refine ct (decide_eq_true (by omega)) (ct hib (ct hib (ct hw ?_)))
    by_cases h : cntV w (nr (Abs.rowAt v i) 0) < nr (Abs.rowAt v i) 1
    · refine ct (decide_eq_true h) ?_
      rw [decide_eq_true h]
      rfl
    · refine cf (decide_eq_false h) ?_
      rw [decide_eq_false h]
      rfl

theorem k28 (v w : List (List Cell)) (h : (okLn v && okLn w) = true) : ∃ m, runF E (callOf L27) m 28 [.one (.sl false 65 v), .one (.sl false 65 w)] [] = some ([.one (.bool (leV v w))], []) := by
  simp only [Bool.and_eq_true] at h
  obtain ⟨m, hm⟩ := l28 v w (okLn_of h.1) h.2 v.length 0 (by omega)
  exact ⟨m + 1, by rw [e28]; exact hm⟩

theorem l31 (v : List (List Cell)) (hv : v.length ≤ 1000) : ∀ (d i : Nat), i + d = v.length →
    ∃ m, goF E (callOf L28) F31 0 m P31_0 (M31_0 v i) = some ([.one (.int .i64 (vVecF (decide (i = 0)) (Abs.rowAt v (i - 1)) (v.drop i)))], [])
  | 0, i, hi => by
    refine ⟨1, ?_⟩
    have : v.drop i = [] := List.drop_eq_nil_of_le (by omega)
    rw [e31_0, this]
    exact cf (decide_eq_false (by omega)) rfl
  | d + 1, i, hi => by
    have hi' : i < v.length := by omega
    have hib := inB_nat' hi'
    obtain ⟨m, hm⟩ := l31 v hv d (i + 1) (by omega)
    rw [decide_eq_false (by omega : ¬ i + 1 = 0), Nat.add_sub_cancel] at hm
    refine ⟨m + 1, ?_⟩
    rw [e31_0, Int.toNat_natCast, drop_cons v i hi', vVecF, nat_wrap (n := v.length) hi' (by omega), hm]
    generalize Abs.rowAt v i = r
    refine ct (decide_eq_true (by omega)) (ct hib ?_)
    by_cases g1 : nr r 0 < 1
    · rw [if_pos (.inl g1)]
      exact ct (decide_eq_true g1) rfl
    · refine cf (decide_eq_false g1) (ct hib ?_)
      by_cases g2 : nr r 1 < 1
      · rw [if_pos (.inr (.inl g2))]
        exact ct (decide_eq_true g2) rfl
      · refine cf (decide_eq_false g2) (ct hib ?_)
        by_cases g3 : 1000000 < nr r 1
        · rw [if_pos (.inr (.inr g3))]
          exact ct (decide_eq_true g3) rfl
        · rw [if_neg (fun h => by omega)]
          refine cf (decide_eq_false g3) ?_
          by_cases h0 : i = 0
          · subst h0
            rw [decide_eq_true rfl, if_neg (by simp)]
            exact cf (decide_eq_false (by simp)) rfl
          · rw [wrap64 (n := (i : Int) - 1) (by omega) (by omega), show ((i : Int) - 1).toNat = i - 1 by omega, decide_eq_false h0]
            generalize Abs.rowAt v (i - 1) = q
            refine ct (decide_eq_true (by omega)) (ct (inB_of (by omega) (by omega)) (ct hib ?_))
            by_cases h2 : nr r 0 ≤ nr q 0
            · rw [if_pos ⟨rfl, h2⟩]
              exact ct (decide_eq_true h2) rfl
            · rw [if_neg (fun h => h2 h.2)]
              exact cf (decide_eq_false h2) rfl

theorem vVecF_first (q q' : List Cell) (l : List (List Cell)) : vVecF true q l = vVecF true q' l := by
  cases l <;> simp [vVecF]

theorem k31 (v : List (List Cell)) (h : okLn v = true) : ∃ m, runF E (callOf L28) m 31 [.one (.sl false 65 v)] [] = some ([.one (.int .i64 (vVec v))], []) := by
  obtain ⟨m, hm⟩ := l31 v (okLn_of h) v.length 0 (by omega)
  refine ⟨m + 1, ?_⟩
  rw [e31]
  refine Eq.trans hm ?_
  rw [decide_eq_true rfl, List.drop_zero, vVecF_first _ []]
  rfl

theorem vecRF_inv : ∀ (c v : List (List Cell)), CntOk v 1000000 → CntOk (vecRF v c) 1000000 ∧ (vecRF v c).length ≤ v.length + c.length
  | [], v, h => ⟨h, Nat.le_refl _⟩
  | r :: c, v, h => by
    have hw := withV_ok h (nr r 0) (cntV v (nr r 0) + 1)
    have := vecRF_inv c (withV v (nr r 0) (cntV v (nr r 0) + 1)) hw.1
    show CntOk (vecRF (withV v (nr r 0) (cntV v (nr r 0) + 1)) c) _ ∧ _
    refine ⟨this.1, ?_⟩
    show (vecRF (withV v (nr r 0) (cntV v (nr r 0) + 1)) c).length ≤ _
    simp only [List.length_cons]
    omega

theorem vecR_cnt (c : List (List Cell)) : CntOk (vecR c) 1000000 ∧ (vecR c).length ≤ c.length := by
  have := vecRF_inv c [] (fun e he => by cases he)
  simpa [vecR] using this

theorem uniK_len : ∀ (b a : List (List Cell)), (uniK a b).length ≤ a.length + b.length
  | [], _ => Nat.le_refl _
  | p :: b, a => by
    have h1 := uniK_len b (insK a p)
    have h2 := insK_len a p
    rw [uniK_cons]
    simp only [List.length_cons]
    omega

theorem uniK_mem : ∀ {b a : List (List Cell)} {x : List Cell}, x ∈ uniK a b → x ∈ a ∨ x ∈ b
  | [], _, _, h => .inl h
  | p :: b, a, x, h => by
    rw [uniK_cons] at h
    rcases uniK_mem h with h | h
    · rcases mem_insK.1 h with h | ⟨rfl, _⟩
      · exact .inl h
      · exact .inr List.mem_cons_self
    · exact .inr (List.mem_cons_of_mem _ h)

theorem vVecF_of : ∀ (l : List (List Cell)) (first : Bool) (q : List Cell), vVecF first q l = 0 → AscV l ∧ (first = false → ∀ r ∈ l, nr q 0 < nr r 0)
  | [], _, _, _ => ⟨by simp [AscV], fun _ r hr => (by cases hr)⟩
  | e :: l, first, q, h => by
    rw [vVecF] at h
    split at h
    · simp at h
    · split at h
      · simp at h
      · rename_i h1
        obtain ⟨g1, g2⟩ := vVecF_of l false e h
        refine ⟨List.pairwise_cons.2 ⟨g2 rfl, g1⟩, fun hf r hr => ?_⟩
        have h2 : nr q 0 < nr e 0 := by
          refine Int.lt_of_not_ge fun hh => h1 ⟨hf, hh⟩
        rcases List.mem_cons.1 hr with rfl | hr
        · exact h2
        · have := g2 rfl r hr
          omega

theorem insK_len_new : ∀ {l : List (List Cell)} {p : List Cell}, hasK l p = false → (insK l p).length = l.length + 1
  | [], _, _ => rfl
  | q :: l, p, h => by
    rw [hasK_cons, Bool.or_eq_false_iff] at h
    have h1 : ¬ kEq p q = true := by
      have := h.1
      rw [kEq_false] at this
      rw [kEq_iff]
      omega
    rw [insK, if_neg h1]
    split
    · rfl
    · rw [List.length_cons, insK_len_new h.2, List.length_cons]

theorem gIndex_bound (n k : Int) (hk : 1 ≤ k) : 0 ≤ gIndex n k ∧ gIndex n k < k := by
  unfold gIndex
  rw [if_neg (by omega)]
  exact ⟨Int.emod_nonneg _ (by omega), Int.emod_lt_of_pos _ (by omega)⟩

end Go.Proofs.Ytkfniijfenkocaa
