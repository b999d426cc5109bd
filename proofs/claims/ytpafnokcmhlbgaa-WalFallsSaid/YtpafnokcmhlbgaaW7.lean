/-
  The contracts of the log: a replacement; the laws' own helpers.
-/
import Derived.Test.YtpafnokcmhlbgaaW6
namespace Go.Proofs.Ytpafnokcmhlbgaa
open Go.Abs

theorem encW_app (g : Int) (a b : List (List Cell)) : ∀ (o : Int), encW g o (a ++ b) = encW g o a ++ encW g (o + recsN a) b := by
  induction a with
  | nil => intro o; simp [encW, recsN]
  | cons r a ih =>
    intro o
    simp only [List.cons_append, encW, recsN, ih, List.append_assoc]
    have e : o + ((nl r 0).length : Int) + 10 + recsN a = o + (((nl r 0).length : Int) + 10 + recsN a) := by omega
    rw [e]
theorem encW_len (g : Int) (a : List (List Cell)) : ∀ (o : Int), ((encW g o a).length : Int) = recsN a := by
  induction a with
  | nil => intro o; rfl
  | cons r a ih =>
    intro o
    have h1 := ih (o + ((nl r 0).length : Int) + 10)
    have h2 := wEnc_len g o (nl r 0)
    simp only [encW, recsN, List.length_append]
    omega
theorem encW_okB (g : Int) (a : List (List Cell)) : ∀ (o : Int), (∀ r ∈ a, okB (nl r 0) = true) → okB (encW g o a) = true := by
  induction a with
  | nil => intro o _; rfl
  | cons r a ih => intro o h; exact okB_app (wEnc_okB _ _ (h r List.mem_cons_self)) (ih _ fun s hs => h s (List.mem_cons_of_mem _ hs))
theorem recsN_app (a b : List (List Cell)) : recsN (a ++ b) = recsN a + recsN b := by
  induction a with
  | nil => simp [recsN]
  | cons r a ih => simp only [List.cons_append, recsN, ih]; omega
theorem recsN_nn (a : List (List Cell)) : 0 ≤ recsN a ∧ (a.length : Int) ≤ recsN a := by
  induction a with
  | nil => simp [recsN]
  | cons r a ih => simp only [recsN, List.length_cons]; omega
theorem recsN_le {a : List (List Cell)} (h : recsE a = 0) : recsN a ≤ 30010 * a.length := by
  induction a with
  | nil => simp [recsN]
  | cons r a ih =>
    simp only [recsE] at h
    split at h
    · contradiction
    · rename_i hr
      have := recE_of (Classical.not_not.mp hr)
      have := ih h
      simp only [recsN, List.length_cons]
      omega
theorem recsE_app {a b : List (List Cell)} (h : recsE a = 0) : recsE (a ++ b) = recsE b := by
  induction a with
  | nil => rfl
  | cons r a ih =>
    simp only [List.cons_append, recsE] at h ⊢
    split at h
    · contradiction
    · rename_i hr
      rw [if_neg hr, ih h]
theorem recsE_mem {a : List (List Cell)} (h : recsE a = 0) : ∀ r ∈ a, 1 ≤ (nl r 0).length ∧ (nl r 0).length ≤ 30000 := by
  induction a with
  | nil => intro r hr; cases hr
  | cons s a ih =>
    simp only [recsE] at h
    split at h
    · contradiction
    · rename_i hs
      intro r hr
      rcases List.mem_cons.mp hr with rfl | hr
      · exact recE_of (Classical.not_not.mp hs)
      · exact ih h r hr
theorem take_succ' {x : List (List Cell)} {i : Nat} (h : i < x.length) : x.take (i + 1) = x.take i ++ [Abs.rowAt x i] := by
  have e1 : x.take (i + 1) = x.take i ++ (x.drop i).take 1 := List.take_add
  rw [e1, drop_cons x i h]; rfl

theorem zeros_okB (n : Int) : okB (zeros n) = true := okB_rep _
theorem zeros_len (n : Int) : (zeros n).length = n.toNat := List.length_replicate ..

theorem l34_1 (un cn : Nat) (d : Dk) (l : Lg) (r : List (List Cell)) (h : okDk un cn d = true) (hl : okLg d l = true) (hr : okRl r = true) (hq : d.q.length ≤ 1000000) (hf : l.failed = false) (hE : recsE r = 0) (hN : recsN r ≤ d.half - 32) (hg : l.gen ≠ 18446744073709551615) :
    ∀ (k i : Nat), i + k = r.length → ∃ m, goF E (callOf L33) F34 4 m P34_1 (M34_1 r (recsN r) (1 - l.act) (l.gen + 1) (encW (l.gen + 1) 0 (r.take i)).length r r.length i l.act l.gen l.recs l.fin l.failed un cn d.q d.arm d.left d.down d.dur d.cur (encW (l.gen + 1) 0 (r.take i))) =
      some ([.one (.int .i64 (repM d l r).e)], lB un cn (repM d l r).d (repM d l r).l) := by
  obtain ⟨hu, hc, hd⟩ := okDk_of h
  have hlg := okLg_of hl
  obtain ⟨hr1, hr2⟩ := okRl_of hr
  have hh := half_of hd
  have hgen := hlg.gen
  have hact := hlg.act
  have hseg : okSeg (1 - l.act) = true := seg_mk (by omega)
  have hsh := seg_half hd (s := 1 - l.act) (by omega)
  have hnn := recsN_nn r
  intro k
  induction k with
  | zero =>
    intro i hi
    have hi' : i = r.length := by omega
    subst hi'
    rw [List.take_length]
    have hel := encW_len (l.gen + 1) r 0
    have heb : okB (encW (l.gen + 1) 0 r) = true := encW_okB _ _ _ hr2
    refine ⟨1, ?_⟩
    rw [e34_1]
    dsimp only
    rw [dk_eta, wrap64 (n := d.half - 32 - recsN r) (by omega) (by omega)]
    have eB : encW (l.gen + 1) 0 r ++ List.replicate (d.half - 32 - recsN r).toNat [Cell.int .u8 0] = repB d l r := rfl
    have eBl : (repB d l r).length = (d.half - 32).toNat := by rw [← eB, List.length_append, List.length_replicate]; omega
    have eBb : okB (repB d l r) = true := okB_app heb (okB_rep _)
    have eD : d.store ((1 - l.act) * d.half + 32) (repB d l r) = repD d l r := rfl
    rw [eB, eD]
    have hk : Kept d (repD d l r).d (repB d l r).length := store_kept hd eBb (by rw [eBl]; omega)
    have hkh : (repD d l r).d.half = d.half := hk.half
    have hkq := hk.q
    rw [hkh]
    have eH : (repD d l r).d.store ((1 - l.act) * d.half) (wHdr (l.gen + 1)) = repH d l r := rfl
    rw [eH]
    refine cf (decide_eq_false (by omega)) (ct h (ct (nbeq_of rfl) (ct (okMake_mk (by omega) (by omega)) (ct (fits_mk (by omega)) (ct (and_mk h hseg) (ct (nbeq_of (by rw [eBl]; omega)) (ct (and_mk h (okWx_mk eBb (by rw [eBl]; omega))) ?_)))))))
    unfold repM
    rw [if_neg (by simp [hf]), if_neg (by simp [hE]), if_neg (by omega)]
    by_cases h1 : (repD d l r).e = 0
    · rw [if_neg (by simp [h1])]
      refine cf (by simpa using h1) (ct (and_mk (kept_ok h hk) hseg) (ct (okV_mk (by omega) (by omega)) (ct (and_mk (kept_ok h hk) (okWx_mk (wHdr_okB _) (by rw [wHdr_len]; omega))) ?_)))
      by_cases h2 : (repH d l r).e = 0
      · rw [if_neg (by simp [h2])]
        refine cf (by simpa using h2) (ct (okRs_mk hr1 fun q hq => ⟨hr2 q hq, (recsE_mem hE q hq).2⟩) ?_)
        rw [h2]
        rfl
      · rw [if_pos h2]
        have e4 : ((repH d l r).e != 0) = true := by simpa using h2
        refine ct e4 ?_
        rw [e4]
    · rw [if_pos h1]
      have e4 : ((repD d l r).e != 0) = true := by simpa using h1
      refine ct e4 ?_
      rw [e4]
  | succ k ih =>
    intro i hi
    obtain ⟨m, hm⟩ := ih (i + 1) (by omega)
    refine ⟨m + 1, ?_⟩
    have hmem := rowAt_mem (x := r) (i := i) (by omega)
    have hts := take_succ' (x := r) (i := i) (by omega)
    have hsum : recsN r = recsN (r.take i) + recsN (r.drop i) := by rw [← recsN_app, List.take_append_drop]
    have hnd := recsN_nn (r.drop i)
    have hel := encW_len (l.gen + 1) (r.take i) 0
    have heb : okB (encW (l.gen + 1) 0 (r.take i)) = true := encW_okB _ _ _ fun q hq => hr2 q (List.mem_of_mem_take hq)
    have hx := recsE_mem hE _ hmem
    rw [hts, encW_app] at hm
    have e1 : encW (l.gen + 1) (0 + recsN (r.take i)) [Abs.rowAt r i] = wEnc (l.gen + 1) (recsN (r.take i)) (nl (Abs.rowAt r i) 0) := by simp [encW]
    rw [e1, ← hel] at hm
    rw [e34_1]
    dsimp only
    rw [Int.toNat_natCast, wrap64 (n := (i : Int) + 1) (by omega) (by omega)]
    refine ct (decide_eq_true (by omega)) (ct (inB_nat' (by omega)) (ct (and_mk (okV_mk (by omega) (by omega)) (and_mk (and_mk (hr2 _ hmem) (and_mk (pd_t (by omega)) (and_mk (pd_t (by omega)) (pd_t (by omega))))) (and_mk (and_mk (nbeq_of rfl) (pd_t (by omega))) (pd_t (by omega))))) ?_))
    exact_mod_cast hm

theorem l34_0 (un cn : Nat) (d : Dk) (l : Lg) (r : List (List Cell)) (h : okDk un cn d = true) (hl : okLg d l = true) (hr : okRl r = true) (hq : d.q.length ≤ 1000000) (hf : l.failed = false) :
    ∀ (k i : Nat), i + k = r.length → recsE (r.take i) = 0 → ∃ m, goF E (callOf L33) F34 4 m P34_0 (M34_0 r (recsN (r.take i)) r r.length i l.act l.gen l.recs l.fin l.failed un cn d.q d.arm d.left d.down d.dur d.cur) =
      some ([.one (.int .i64 (repM d l r).e)], lB un cn (repM d l r).d (repM d l r).l) := by
  obtain ⟨hu, hc, hd⟩ := okDk_of h
  have hlg := okLg_of hl
  obtain ⟨hr1, hr2⟩ := okRl_of hr
  have hgen := hlg.gen
  have hact := hlg.act
  have hnn := recsN_nn r
  intro k
  induction k with
  | zero =>
    intro i hi hE
    have hi' : i = r.length := by omega
    subst hi'
    rw [List.take_length] at hE ⊢
    by_cases h1 : d.half - 32 < recsN r ∨ l.gen = 18446744073709551615
    · refine ⟨1, ?_⟩
      rw [e34_0]
      unfold repM
      rw [if_neg (by simp [hf]), if_neg (by simp [hE]), if_pos h1]
      refine cf (decide_eq_false (by omega)) (ct h ?_)
      by_cases h2 : d.half - 32 < recsN r
      · exact ct (decide_eq_true h2) rfl
      · exact cf (decide_eq_false h2) (ct (by have : l.gen = 18446744073709551615 := by omega
                                              rw [this]; rfl) rfl)
    · obtain ⟨m, hm⟩ := l34_1 un cn d l r h hl hr hq hf hE (by omega) (by omega) r.length 0 (by omega)
      refine ⟨m + 1, ?_⟩
      rw [e34_0]
      refine cf (decide_eq_false (by omega)) (ct h (cf (decide_eq_false (by show ¬ (recsN r > d.half - 32); omega)) (cf (beq_eq_false_iff_ne.mpr (by omega)) ?_)))
      rw [wrap64 (n := 1 - l.act) (by omega) (by omega), wrapu (n := l.gen + 1) (by omega) (by omega)]
      exact hm
  | succ k ih =>
    intro i hi hE
    have hmem := rowAt_mem (x := r) (i := i) (by omega)
    have hts := take_succ' (x := r) (i := i) (by omega)
    have hle := recsN_le hE
    have hn0 := recsN_nn (r.take i)
    rw [List.length_take] at hle
    by_cases h1 : recE (nl (Abs.rowAt r i) 0) = 0
    · have hx := recE_of h1
      obtain ⟨m, hm⟩ := ih (i + 1) (by omega) (by rw [hts, recsE_app hE]; simp [recsE, h1])
      rw [hts, recsN_app] at hm
      have e1 : recsN (r.take i) + recsN [Abs.rowAt r i] = recsN (r.take i) + (((nl (Abs.rowAt r i) 0).length : Int) + 10) := by simp [recsN]
      rw [e1] at hm
      refine ⟨m + 1, ?_⟩
      rw [e34_0, Int.toNat_natCast, wrap64 (n := (i : Int) + 1) (by omega) (by omega), wrap64 (n := ((nl (Abs.rowAt r i) 0).length : Int) + 10) (by omega) (by omega), wrap64 (n := recsN (r.take i) + (((nl (Abs.rowAt r i) 0).length : Int) + 10)) (by omega) (by omega)]
      refine ct (decide_eq_true (by omega)) (ct (inB_nat' (by omega)) (cf (by simpa using h1) ?_))
      exact_mod_cast hm
    · refine ⟨1, ?_⟩
      have e2 : recsE r = recE (nl (Abs.rowAt r i) 0) := by
        have e3 : r = r.take i ++ (Abs.rowAt r i :: r.drop (i + 1)) := by rw [← drop_cons r i (by omega), List.take_append_drop]
        rw [e3, recsE_app hE, recsE, if_pos h1, ← e3]
      rw [e34_0, Int.toNat_natCast]
      unfold repM
      rw [if_neg (by simp [hf]), if_pos (by rw [e2]; exact h1), e2]
      exact ct (decide_eq_true (by omega)) (ct (inB_nat' (by omega)) (ct (by simpa using h1) rfl))

theorem okRp_of {d : Dk} {r : List (List Cell)} (h : okRp d r = true) : okRl r = true ∧ d.q.length ≤ 1000000 := by
  unfold okRp at h
  simp only [Bool.and_eq_true] at h
  exact ⟨h.1, pd_of h.2⟩
theorem okRp_mk {d : Dk} {r : List (List Cell)} (h : okRl r = true) (hq : d.q.length ≤ 1000000) : okRp d r = true := and_mk h (pd_t hq)

theorem k34 (r : List (List Cell)) (un cn : Nat) (d : Dk) (l : Lg) (h : okDk un cn d = true) (hl : okLg d l = true) (hr : okRp d r = true) : ∃ m, runF E (callOf L33) m 34 [.one (.ptr 0 0), .one (.sl false 22 r)] (lB un cn d l) =
    some ([.one (.int .i64 (repM d l r).e)], lB un cn (repM d l r).d (repM d l r).l) := by
  obtain ⟨hrl, hq⟩ := okRp_of hr
  cases hf : l.failed with
  | true =>
    refine ⟨1, ?_⟩
    have e : repM d l r = ⟨d, l, 15⟩ := by unfold repM; rw [if_pos hf]
    rw [e34, e]
    refine ct (by rw [hf]; rfl) ?_
    show some ([AV.one (AC.int .i64 (useE l.failed))], lB un cn d l) = some ([.one (.int .i64 15)], lB un cn d l)
    rw [show useE l.failed = 15 by rw [hf]; rfl]
  | false =>
    obtain ⟨m, hm⟩ := l34_0 un cn d l r h hl hrl hq hf r.length 0 (by omega) rfl
    refine ⟨m + 1, ?_⟩
    rw [e34]
    exact cf (by rw [hf]; rfl) hm
theorem k34_2 (un cn : Nat) (d : Dk) (l : Lg) (h : okDk un cn d = true) (hl : okLg d l = true) (hr : okRp d [] = true) : ∃ m, runF E (callOf L33) m 34 [.one (.ptr 0 0), .one (.nils)] (lB un cn d l) =
    some ([.one (.int .i64 (repM d l []).e)], lB un cn (repM d l []).d (repM d l []).l) := by
  obtain ⟨hrl, hq⟩ := okRp_of hr
  cases hf : l.failed with
  | true =>
    refine ⟨1, ?_⟩
    have e : repM d l [] = ⟨d, l, 15⟩ := by unfold repM; rw [if_pos hf]
    rw [e34_c2, e]
    refine ct (by rw [hf]; rfl) ?_
    show some ([AV.one (AC.int .i64 (useE l.failed))], lB un cn d l) = some ([.one (.int .i64 15)], lB un cn d l)
    rw [show useE l.failed = 15 by rw [hf]; rfl]
  | false =>
    obtain ⟨m, hm⟩ := l34_0 un cn d l [] h hl hrl hq hf 0 0 rfl rfl
    refine ⟨m + 1, ?_⟩
    rw [e34_c2]
    exact cf (by rw [hf]; rfl) hm
theorem k33_2 (un cn : Nat) (d : Dk) (l : Lg) (h : okDk un cn d = true) (hl : okLg d l = true) (hr : okAp d [] = true) : runF E (callOf L62) 1 33 [.one (.ptr 0 0), .one (.nils)] (lB un cn d l) =
    some ([.one (.int .i64 (appM d l []).e)], lB un cn (appM d l []).d (appM d l []).l) := by
  rw [e33_c2]
  dsimp only
  cases hf : l.failed with
  | true =>
    have e : appM d l [] = ⟨d, l, 15⟩ := by unfold appM; rw [if_pos hf]
    rw [e]
    refine ct rfl ?_
    show some ([AV.one (AC.int .i64 (useE true))], lB un cn d ⟨l.act, l.gen, l.recs, l.fin, true⟩) = some ([.one (.int .i64 15)], lB un cn d l)
    rw [← hf, show useE l.failed = 15 by rw [hf]; rfl]
  | false =>
    have e : appM d l [] = ⟨d, l, 2⟩ := by unfold appM; rw [if_neg (by simp [hf])]; rfl
    rw [e]
    refine cf rfl (ct rfl ?_)
    show some ([AV.one (AC.int .i64 2)], lB un cn d ⟨l.act, l.gen, l.recs, l.fin, false⟩) = some ([.one (.int .i64 2)], lB un cn d l)
    rw [← hf]

/- THE LAWS' HELPERS -/

theorem k15 (x : List (List Cell)) (n : Int) (h0 : 0 ≤ n) (hn : n ≤ 1000) : runF E (callOf L34) 1 15 [.one (.sl false 5 x), .one (.int .i64 n)] [] = some ([.one (.sl true 5 (x.take n.toNat))], []) := by
  rw [e15, takeN_eq, List.nil_append]
  have e : (x.take (if n < (x.length : Int) then n else (x.length : Int)).toNat) = x.take n.toNat := by
    split
    · rfl
    · rw [List.take_of_length_le (by omega), List.take_of_length_le (by omega)]
  rw [e]
  exact ct (inB_le (by split <;> omega) (by split <;> omega)) (ct (fits_mk (by simp; omega)) rfl)

theorem l27 (r t : List (List Cell)) (hl : r.length = t.length) (hn : r.length ≤ 9223372036854775807) : ∀ (k i : Nat), i + k = r.length → ∃ m, goF E (callOf L15) F27 0 m P27_0 (M27_0 r t i) = some ([.one (.bool (sameF (r.drop i) (t.drop i)))], []) := by
  intro k
  induction k with
  | zero =>
    intro i hi
    refine ⟨1, ?_⟩
    rw [e27_0, List.drop_eq_nil_of_le (by omega)]
    exact cf (decide_eq_false (by omega)) rfl
  | succ k ih =>
    intro i hi
    obtain ⟨m, hm⟩ := ih (i + 1) (by omega)
    refine ⟨m + 1, ?_⟩
    have hd : t.drop i = Abs.rowAt t i :: t.drop (i + 1) := drop_cons t i (by omega)
    have hrow : Abs.rowAt (t.drop i) 0 = Abs.rowAt t i := by rw [hd]; rfl
    rw [e27_0, drop_cons r i (by omega), Int.toNat_natCast, sameF, hrow, List.drop_drop, wrap64 (n := (i : Int) + 1) (by omega) (by omega)]
    refine ct (decide_eq_true (by omega)) (ct (inB_nat' (by omega)) (ct (inB_nat' (by omega)) ?_))
    cases hb : toBytes (nl (Abs.rowAt r i) 0) == toBytes (nl (Abs.rowAt t i) 0) with
    | true => exact cf rfl (by rw [Bool.true_and]; exact_mod_cast hm)
    | false => exact ct rfl rfl
theorem k27 (r t : List (List Cell)) (hn : r.length ≤ 9223372036854775807) : ∃ m, runF E (callOf L15) m 27 [.one (.sl false 22 r), .one (.sl false 22 t)] [] = some ([.one (.bool (sameR r t))], []) := by
  unfold sameR
  by_cases hl : r.length = t.length
  · obtain ⟨m, hm⟩ := l27 r t hl hn r.length 0 (by omega)
    refine ⟨m + 1, ?_⟩
    rw [e27, decide_eq_true hl, Bool.true_and]
    exact cf (by simp [hl]) hm
  · refine ⟨1, ?_⟩
    rw [e27, decide_eq_false hl, Bool.false_and]
    exact ct (by simp; omega) rfl

theorem l18 (r : List (List Cell)) (k : Int) (hn : r.length ≤ 9223372036854775807) (hk : k ≤ 1000) : ∀ (j i : Nat) (acc : List (List Cell)), i + j = r.length → acc.length = i → ∃ m, goF E (callOf L27) F18 0 m P18_0 (M18_0 r k acc i) = some ([.one (.sl true 22 (acc ++ mkF j i k (r.drop i)))], []) := by
  intro j
  induction j with
  | zero =>
    intro i acc hi ha
    refine ⟨1, ?_⟩
    rw [e18_0]
    refine cf (decide_eq_false (by omega)) ?_
    simp [mkF]
  | succ j ih =>
    intro i acc hi ha
    by_cases h1 : (i : Int) < k
    · obtain ⟨m, hm⟩ := ih (i + 1) (acc ++ [wRow ((nl (Abs.rowAt r i) 0).take 40 ++ [[.int .u8 (IntKind.wrap .u8 i)]])]) (by omega) (by simp; omega)
      refine ⟨m + 1, ?_⟩
      rw [e18_0, drop_cons r i (by omega), mkF, if_pos h1, Int.toNat_natCast, wrap64 (n := (i : Int) + 1) (by omega) (by omega)]
      refine ct (decide_eq_true (by omega)) (ct (decide_eq_true h1) (ct (inB_nat' (by omega)) (ct (and_mk (pd_t (by omega)) (pd_t (by omega))) (ct (fits_mk (by simp; omega)) (ct (fits_mk (by simp; omega)) ?_)))))
      rw [List.append_assoc] at hm
      exact_mod_cast hm
    · refine ⟨1, ?_⟩
      rw [e18_0, drop_cons r i (by omega), mkF, if_neg h1]
      refine ct (decide_eq_true (by omega)) (cf (decide_eq_false h1) ?_)
      simp
theorem k18 (r : List (List Cell)) (k : Int) (hn : r.length ≤ 9223372036854775807) (hk : k ≤ 1000) : ∃ m, runF E (callOf L27) m 18 [.one (.sl false 22 r), .one (.int .i64 k)] [] = some ([.one (.sl true 22 (mkRs r k))], []) := by
  obtain ⟨m, hm⟩ := l18 r k hn hk r.length 0 [] (by omega) rfl
  exact ⟨m + 1, by rw [e18]; simpa [mkRs] using hm⟩

end Go.Proofs.Ytpafnokcmhlbgaa
