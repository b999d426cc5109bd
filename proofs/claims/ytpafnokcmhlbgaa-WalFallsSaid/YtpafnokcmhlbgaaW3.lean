/-
  The contracts of records: appended, read, scanned.
-/
import Derived.Test.YtpafnokcmhlbgaaW2
namespace Go.Proofs.Ytpafnokcmhlbgaa
open Go.Abs

theorem wEnc_app (g o : Int) (x y : List (List Cell)) : (((((x ++ [[Cell.int .u8 229]]) ++ bigF 4 (y.length : Int)) ++ y) ++ bigF 4 (wSum g o y)) ++ [[Cell.int .u8 255]]) = x ++ wEnc g o y := by
  simp [wEnc]
theorem wEnc_len (g o : Int) (y : List (List Cell)) : (wEnc g o y).length = y.length + 10 := by
  simp only [wEnc, List.length_cons, List.length_append, bigF_len, List.length_nil]; omega
theorem wEnc_okB (g o : Int) {y : List (List Cell)} (h : okB y = true) : okB (wEnc g o y) = true := by
  have h1 : okB (([] : List (List Cell)) ++ wEnc g o y) = true := by
    rw [← wEnc_app]
    exact okB_app (okB_app (okB_app (okB_app (by decide) (bigF_okB _ _)) h) (bigF_okB _ _)) (by decide)
  simpa using h1

theorem k63 (g o : Int) (y : List (List Cell)) (hg : okV g = true) (ho0 : 0 ≤ o) (ho : o ≤ 4611686018427387904) (hb : okB y = true) (hy : y.length ≤ 30000) :
    runF E (callOf L77) 1 63 [.one (.nils), .one (.int .u64 g), .one (.int .i64 o), .one (.sl false 5 y)] [] = some ([.one (.msl 5 0 (wEnc g o y).length)], [.arr 5 (wEnc g o y)]) := by
  rw [e63]
  rw [show Int.toNat 4 = 4 from rfl]
  have hw := wSum_range g o y
  rw [wrapu (n := (y.length : Int)) (by omega) (by omega), wrapu (n := wSum g o y) (by omega) (by omega)]
  have hl1 := bigF_len 4 (y.length : Int)
  have hl2 := bigF_len 4 (wSum g o y)
  refine ct (and_mk (okV_mk (by omega) (by omega)) (and_mk rfl (and_mk (nbeq_of rfl) (pd_t (by simp))))) ?_
  refine ct (nbeq_of (by simp [hl1] <;> omega)) (ct (fits_mk (by simp [hl1]; omega)) (ct (and_mk hg (and_mk hb (and_mk (pd_t ho0) (and_mk (pd_t ho) (pd_t hy))))) ?_))
  refine ct (and_mk (okV_mk (by omega) (by omega)) (and_mk rfl (and_mk (nbeq_of (by simp [hl1] <;> omega)) (pd_t (by simp [hl1]; omega))))) ?_
  refine ct (nbeq_of (by simp [hl1, hl2] <;> omega)) (ct (fits_mk (by simp [hl1, hl2]; omega)) ?_)
  rw [wEnc_app]
  have e : (([] ++ [[Cell.int .u8 229]] ++ bigF 4 (y.length : Int) ++ y ++ bigF 4 (wSum g o y)).length + [[Cell.int .u8 255]].length) = (wEnc g o y).length := by
    rw [wEnc_len]; simp [hl1, hl2]; omega
  rw [e]
  rfl

theorem k63b (n : Nat) (g o : Int) (x y : List (List Cell)) (hg : okV g = true) (ho0 : 0 ≤ o) (ho : o ≤ 4611686018427387904) (hb : okB y = true) (hy : y.length ≤ 30000) (hn : n = x.length) (hx : x.length ≤ 900000) :
    runF E (callOf L77) 1 63 [.one (.msl 5 0 n), .one (.int .u64 g), .one (.int .i64 o), .one (.sl false 5 y)] [.arr 5 x] = some ([.one (.msl 5 1 (x ++ wEnc g o y).length)], [.dead, .arr 5 (x ++ wEnc g o y)]) := by
  rw [e63_c1]
  rw [show Int.toNat 4 = 4 from rfl]
  have hw := wSum_range g o y
  rw [wrapu (n := (y.length : Int)) (by omega) (by omega), wrapu (n := wSum g o y) (by omega) (by omega)]
  have hl1 := bigF_len 4 (y.length : Int)
  have hl2 := bigF_len 4 (wSum g o y)
  refine ct (nbeq_of hn) (ct (fits_mk (by simp; omega)) ?_)
  refine ct (and_mk (okV_mk (by omega) (by omega)) (and_mk rfl (and_mk (nbeq_of (by simp [hl1] <;> omega)) (pd_t (by simp; omega))))) ?_
  refine ct (nbeq_of (by simp [hl1] <;> omega)) (ct (fits_mk (by simp [hl1]; omega)) (ct (and_mk hg (and_mk hb (and_mk (pd_t ho0) (and_mk (pd_t ho) (pd_t hy))))) ?_))
  refine ct (and_mk (okV_mk (by omega) (by omega)) (and_mk rfl (and_mk (nbeq_of (by simp [hl1] <;> omega)) (pd_t (by simp [hl1]; omega))))) ?_
  refine ct (nbeq_of (by simp [hl1, hl2] <;> omega)) (ct (fits_mk (by simp [hl1, hl2]; omega)) ?_)
  rw [wEnc_app]
  have e : ((x ++ [[Cell.int .u8 229]] ++ bigF 4 (y.length : Int) ++ y ++ bigF 4 (wSum g o y)).length + [[Cell.int .u8 255]].length) = (x ++ wEnc g o y).length := by
    have hq : (x ++ wEnc g o y).length = x.length + (y.length + 10) := by rw [List.length_append, wEnc_len]
    rw [hq]; simp [hl1, hl2]; omega
  rw [e]

theorem k74 (x : List (List Cell)) (g o : Int) (hg : okV g = true) (hb : okB x = true) (hx : x.length ≤ 1000000) (ho0 : 0 ≤ o) (ho : o ≤ x.length) :
    runF E (callOf L63) 1 74 [.one (.sl false 5 x), .one (.int .u64 g), .one (.int .i64 o)] [] = some ([.one (.sl false 5 (recB g o (x.drop (Int.toNat o))).1), .one (.bool (recB g o (x.drop (Int.toNat o))).2)], []) := by
  rw [e74]
  dsimp only
  rw [dropN_eq]
  refine ct (inB_le ho0 ho) ?_
  have hbb : okB (x.drop (Int.toNat o)) = true := okB_drop hb _
  have hbl : (x.drop (Int.toNat o)).length ≤ 1000000 := by rw [List.length_drop]; omega
  generalize x.drop (Int.toNat o) = b at hbb hbl
  unfold recB
  by_cases h1 : (b.length : Int) ≤ 10
  · rw [if_pos (.inl (by omega))]
    exact ct (decide_eq_true h1) rfl
  refine cf (decide_eq_false h1) (ct (inB_mk (by omega) (by omega)) ?_)
  by_cases h2 : nr (Abs.rowAt b 0) 0 = 229
  rotate_left
  · rw [if_pos (.inr h2)]
    exact ct (by simpa using h2) rfl
  rw [if_neg (by omega)]
  refine cf (by simpa using h2) (ct (inB_le (by omega) (by omega)) (ct (and_mk (okB_sub hbb _ _) (pd_t (by rw [subL_len (by omega)]; omega))) ?_))
  have hr := wNum_range hbb (i := 1) (j := 5) (by omega) (by omega)
  rw [show (5 - 1 : Nat) = 4 from rfl, pow4] at hr
  change 0 ≤ numF 0 (subL b 1 5) ∧ numF 0 (subL b 1 5) < 4294967296 at hr
  have hn : wNum b 1 5 = numF 0 (subL b 1 5) := rfl
  rw [hn]
  generalize numF 0 (subL b 1 5) = n at hr
  by_cases h3 : n < 1
  · rw [if_pos (.inl h3)]
    exact ct (decide_eq_true h3) rfl
  refine cf (decide_eq_false h3) ?_
  by_cases h4 : 30000 < n
  · rw [if_pos (.inr (.inl h4))]
    exact ct (decide_eq_true h4) rfl
  refine cf (decide_eq_false h4) ?_
  rw [wrap64 (n := n) (by omega) (by omega), wrap64 (n := (b.length : Int) - 10) (by omega) (by omega), wrap64 (n := 5 + n) (by omega) (by omega), wrap64 (n := 5 + n + 4) (by omega) (by omega)]
  by_cases h5 : (b.length : Int) - 10 < n
  · rw [if_pos (.inr (.inr h5))]
    exact ct (decide_eq_true h5) rfl
  rw [if_neg (by omega)]
  refine cf (decide_eq_false h5) ?_
  have t1 : (5 + n).toNat = 5 + n.toNat := by omega
  have t2 : (5 + n + 4).toNat = 9 + n.toNat := by omega
  rw [t1, t2]
  have s1 : (subL b 5 (5 + n.toNat)).length = n.toNat := by rw [subL_len (by omega)]; omega
  have s2 : (subL b (5 + n.toNat) (9 + n.toNat)).length = 4 := by rw [subL_len (by omega)]; omega
  simp only [List.nil_append]
  have hw := wSum_range g o (subL b 5 (5 + n.toNat))
  rw [wrapu (n := wSum g o (subL b 5 (5 + n.toNat))) (by omega) (by omega)]
  refine ct (inB_le (by omega) (by omega)) (ct (inB_le (by omega) (by omega)) (ct (fits_mk (by simp; omega)) (ct (inB_le (by omega) (by omega)) (ct (inB_le (by omega) (by omega)) ?_))))
  refine ct (and_mk (okB_sub hbb _ _) (pd_t (by omega))) (ct (and_mk hg (and_mk (okB_sub hbb _ _) (and_mk (pd_t ho0) (and_mk (pd_t (by omega)) (pd_t (by omega)))))) ?_)
  have hq : wNum b (5 + n.toNat) (9 + n.toNat) = numF 0 (subL b (5 + n.toNat) (9 + n.toNat)) := rfl
  rw [hq]
  by_cases h6 : numF 0 (subL b (5 + n.toNat) (9 + n.toNat)) = wSum g o (subL b 5 (5 + n.toNat))
  · refine ct (by simpa using h6) (ct (inB_mk (by omega) (by omega)) ?_)
    rw [decide_eq_true h6, Bool.true_and]
    refine congrArg (fun z => some ([AV.one (.sl false 5 (subL b 5 (5 + n.toNat))), AV.one (AC.bool z)], ([] : List Block))) ?_
    cases hc : decide (nr (Abs.rowAt b (9 + n.toNat)) 0 = 255) with
    | true => simpa using hc
    | false => simpa using hc
  · refine cf (by simpa using h6) ?_
    rw [decide_eq_false h6, Bool.false_and]

theorem recB_len {g o : Int} {b : List (List Cell)} (hb : okB b = true) (h : (recB g o b).2 = true) : 1 ≤ (recB g o b).1.length ∧ (recB g o b).1.length ≤ 30000 ∧ (recB g o b).1.length + 10 ≤ b.length := by
  unfold recB at h ⊢
  split at h
  · cases h
  · split at h
    · cases h
    · rename_i h1 h2
      rw [if_neg h1, if_neg h2]
      have hr := wNum_range hb (i := 1) (j := 5) (by omega) (by omega)
      dsimp only
      rw [subL_len (by omega)]
      omega

/-- no more steps than bytes are needed -/
theorem scanF_fuel {g : Int} : ∀ {b : List (List Cell)} (_ : okB b = true) (k j : Nat) {o : Int}, b.length ≤ k → b.length ≤ j → scanF j g o b = scanF k g o b := by
  intro b hb k
  induction k generalizing b with
  | zero =>
    intro j o hk hj
    have hb0 : b = [] := List.eq_nil_of_length_eq_zero (by omega)
    subst hb0
    cases j with
    | zero => rfl
    | succ j => simp [scanF, recB]
  | succ k ih =>
    intro j o hk hj
    cases j with
    | zero =>
      have hb0 : b = [] := List.eq_nil_of_length_eq_zero (by omega)
      subst hb0
      simp [scanF, recB]
    | succ j =>
      simp only [scanF]
      split
      · rename_i hc
        have hl := recB_len hb hc
        have := ih (b := b.drop ((recB g o b).1.length + 10)) (okB_drop hb _) j (o := o + (recB g o b).1.length + 10) (by rw [List.length_drop]; omega) (by rw [List.length_drop]; omega)
        rw [this]
      · rfl

theorem l52_0 (x : List (List Cell)) (g : Int) (hg : okV g = true) (hb : okB x = true) (hx : x.length ≤ 1000000) : ∀ (d i : Nat) (acc : List (List Cell)), i + d = x.length → acc.length ≤ i →
    ∃ m, goF E (callOf L74) F52 0 m P52_0 (M52_0 x g acc i) = some ([.one (.sl true 22 (acc ++ (scanF d g i (x.drop i)).1)), .one (.int .i64 (scanF d g i (x.drop i)).2)], []) := by
  intro d
  induction d using Nat.strongRecOn with
  | ind d ih =>
    intro i acc h ha
    have hg1 : (okV g && (okBl x && (pd ((0 : Int) ≤ (i : Int)) && pd ((i : Int) ≤ (x.length : Int))))) = true := and_mk hg (and_mk (and_mk hb (pd_t hx)) (and_mk (pd_t (by omega)) (pd_t (by omega))))
    have hbd : okB (x.drop i) = true := okB_drop hb i
    have hld : (x.drop i).length = d := by rw [List.length_drop]; omega
    cases hc : (recB g i (x.drop i)).2 with
    | false =>
      refine ⟨1, ?_⟩
      rw [e52_0, Int.toNat_natCast]
      refine ct hg1 (ct (by rw [hc]; rfl) ?_)
      cases d with
      | zero => simp [scanF]
      | succ d => simp [scanF, hc]
    | true =>
      have hl := recB_len hbd hc
      rw [hld] at hl
      cases d with
      | zero => omega
      | succ d =>
        obtain ⟨m, hm⟩ := ih (d + 1 - ((recB g i (x.drop i)).1.length + 10)) (by omega) (i + ((recB g i (x.drop i)).1.length + 10)) (acc ++ [wRow (recB g i (x.drop i)).1]) (by omega) (by simp; omega)
        refine ⟨m + 1, ?_⟩
        rw [e52_0, Int.toNat_natCast]
        refine ct hg1 (cf (by rw [hc]; rfl) (ct (fits_mk (by simp; omega)) ?_))
        rw [wrap64 (n := ((recB g i (x.drop i)).1.length : Int) + 10) (by omega) (by omega), wrap64 (by omega) (by omega)]
        have e1 : (i : Int) + (((recB g i (x.drop i)).1.length : Int) + 10) = ((i + ((recB g i (x.drop i)).1.length + 10) : Nat) : Int) := by omega
        rw [e1]
        refine hm.trans ?_
        have fuel : ∀ (k : Nat), d + 1 - ((recB g i (x.drop i)).1.length + 10) ≤ k → scanF k g ((i + ((recB g i (x.drop i)).1.length + 10) : Nat) : Int) (x.drop (i + ((recB g i (x.drop i)).1.length + 10))) =
            scanF (d + 1 - ((recB g i (x.drop i)).1.length + 10)) g ((i + ((recB g i (x.drop i)).1.length + 10) : Nat) : Int) (x.drop (i + ((recB g i (x.drop i)).1.length + 10))) := fun k hk =>
          scanF_fuel (okB_drop hb _) _ k (by rw [List.length_drop]; omega) (by rw [List.length_drop]; omega)
        have e2 := fuel d (by omega)
        have e3 : scanF (d + 1) g i (x.drop i) = (wRow (recB g i (x.drop i)).1 :: (scanF d g ((i + ((recB g i (x.drop i)).1.length + 10) : Nat) : Int) (x.drop (i + ((recB g i (x.drop i)).1.length + 10)))).1, (scanF d g ((i + ((recB g i (x.drop i)).1.length + 10) : Nat) : Int) (x.drop (i + ((recB g i (x.drop i)).1.length + 10)))).2) := by
          rw [scanF, if_pos hc, List.drop_drop]
          have e4 : (i : Int) + ((recB g i (x.drop i)).1.length : Int) + 10 = ((i + ((recB g i (x.drop i)).1.length + 10) : Nat) : Int) := by omega
          rw [e4]
        rw [e3, e2]
        simp

theorem k52 (x : List (List Cell)) (g : Int) (hg : okV g = true) (hb : okB x = true) (hx : x.length ≤ 1000000) : ∃ m, runF E (callOf L74) m 52 [.one (.sl false 5 x), .one (.int .u64 g)] [] = some ([.one (.sl true 22 (wScan g x).1), .one (.int .i64 (wScan g x).2)], []) := by
  obtain ⟨m, hm⟩ := l52_0 x g hg hb hx x.length 0 [] (by omega) (by simp)
  exact ⟨m + 1, by rw [e52]; simpa [wScan] using hm⟩

theorem l49_0 (x : List (List Cell)) (hx : x.length ≤ 1000000) : ∀ (d i : Nat), i + d = x.length → ∃ m, goF E (callOf L52) F49 0 m P49_0 (M49_0 x x.length i) = some ([.one (.bool (zeroB (x.drop i)))], [])
  | 0, i, h => by
    refine ⟨1, ?_⟩
    rw [e49_0, List.drop_eq_nil_of_le (by omega)]
    exact cf (decide_eq_false (by omega)) rfl
  | d + 1, i, h => by
    obtain ⟨m, hm⟩ := l49_0 x hx d (i + 1) (by omega)
    refine ⟨m + 1, ?_⟩
    rw [e49_0, drop_cons x i (by omega), Int.toNat_natCast]
    refine ct (decide_eq_true (by omega)) (ct (inB_nat' (by omega)) ?_)
    have e : zeroB (Abs.rowAt x i :: x.drop (i + 1)) = ((nr (Abs.rowAt x i) 0 == 0) && zeroB (x.drop (i + 1))) := rfl
    rw [e]
    by_cases h0 : nr (Abs.rowAt x i) 0 = 0
    · refine cf (by simp [h0]) ?_
      rw [wrap64 (by omega) (by omega), h0]
      simpa using hm
    · refine ct (by simpa using h0) ?_
      have : (nr (Abs.rowAt x i) 0 == 0) = false := by simpa using h0
      rw [this, Bool.false_and]

theorem k49 (x : List (List Cell)) (hx : x.length ≤ 1000000) : ∃ m, runF E (callOf L52) m 49 [.one (.sl false 5 x)] [] = some ([.one (.bool (zeroB x))], []) := by
  obtain ⟨m, hm⟩ := l49_0 x hx x.length 0 (by omega)
  exact ⟨m + 1, by rw [e49]; simpa using hm⟩

end Go.Proofs.Ytpafnokcmhlbgaa
