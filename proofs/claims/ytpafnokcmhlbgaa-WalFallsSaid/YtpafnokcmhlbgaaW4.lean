/-
  The contracts of the disk.
-/
import Derived.Test.YtpafnokcmhlbgaaW3
namespace Go.Proofs.Ytpafnokcmhlbgaa
open Go.Abs

abbrev dV (un cn : Nat) (d : Dk) : Block := .var [.msl 5 1 un, .msl 5 2 cn, .sl true 85 d.q, .bool d.arm, .int .i64 d.left, .bool d.down]
abbrev dB (un cn : Nat) (d : Dk) : List Block := [dV un cn d, .arr 5 d.dur, .arr 5 d.cur]

theorem okDk_of {n m : Nat} {d : Dk} (h : okDk n m d = true) : n = d.dur.length ∧ m = d.cur.length ∧ DkOk d := by
  unfold okDk at h
  simp only [Bool.and_eq_true, decide_eq_true_eq] at h
  exact ⟨Nat.eq_of_beq_eq_true h.1, Nat.eq_of_beq_eq_true h.2.1, h.2.2⟩
theorem okDk_mk {n m : Nat} {d : Dk} (h1 : n = d.dur.length) (h2 : m = d.cur.length) (h : DkOk d) : okDk n m d = true := by
  unfold okDk
  simp only [Bool.and_eq_true, decide_eq_true_eq]
  exact ⟨nbeq_of h1, nbeq_of h2, h⟩
theorem okPc_of {n : Nat} {r : List Cell} (h : okPc n r = true) : 0 ≤ nr r 0 ∧ nr r 0 + (nl r 1).length ≤ n ∧ okB (nl r 1) = true := by
  unfold okPc at h
  simp only [Bool.and_eq_true] at h
  exact ⟨pd_of h.1, pd_of h.2.1, h.2.2⟩
theorem okPc_mk {n : Nat} {r : List Cell} (h0 : 0 ≤ nr r 0) (h1 : nr r 0 + (nl r 1).length ≤ n) (h2 : okB (nl r 1) = true) : okPc n r = true := and_mk (pd_t h0) (and_mk (pd_t h1) h2)

/- MAKING ONE -/

theorem secN_of (n : Int) : ((secN n : Nat) : Int) = (if (if 2048 < n then 2048 else n) > 1 then (if 2048 < n then 2048 else n) else 1) * 32 ∧ 32 ≤ secN n ∧ secN n ≤ 65536 ∧ secN n % 32 = 0 := by
  unfold secN
  refine ⟨?_, ?_, ?_, ?_⟩ <;> (repeat' split) <;> omega

theorem k12 (n : Int) : runF E (callOf L49) 1 12 [.one (.int .i64 n)] [] = some ([.one (.ptr 0 0)], dB (secN n) (secN n) (newDk n)) := by
  rw [e12]
  obtain ⟨h1, h2, h3, h4⟩ := secN_of n
  rw [← h1, wrap64 (n := ((secN n : Nat) : Int)) (by omega) (by omega)]
  have e1 : okMake ((secN n : Nat) : Int) ((secN n : Nat) : Int) = true := okMake_mk (by omega) (by omega)
  have e2 : Nat.blt 0 (secN n) = true := nblt_of (by omega)
  simp only [Int.toNat_natCast, e1, e2, cond_true, sameO_self]
  rfl

/- LOOKING AT ONE -/

theorem k32 (un cn : Nat) (d : Dk) (h : okDk un cn d = true) : runF E (callOf L12) 1 32 [.one (.ptr 0 0)] (dB un cn d) = some ([.one (.int .i64 (secs d.dur))], dB un cn d) := by
  obtain ⟨hu, hc, hd⟩ := okDk_of h
  rw [e32]
  have h1 := hd.le
  have e : IntKind.wrap .i64 (Int.tdiv (un : Int) 32) = secs d.dur := by
    rw [hu, Int.tdiv_eq_ediv_of_nonneg (by omega)]
    unfold secs
    rw [wrap64 (by omega) (by omega)]
    omega
  rw [e]
theorem k38 (un cn : Nat) (d : Dk) : runF E (callOf L32) 1 38 [.one (.ptr 0 0)] (dB un cn d) = some ([.one (.bool d.down)], dB un cn d) := by rw [e38]
theorem k44 (o k : Int) (un cn : Nat) (d : Dk) (h : okDk un cn d = true) : runF E (callOf L38) 1 44 [.one (.ptr 0 0), .one (.int .i64 o), .one (.int .i64 k)] (dB un cn d) = some ([.one (.int .i64 (d.chk o k))], dB un cn d) := by
  obtain ⟨hu, hc, hd⟩ := okDk_of h
  have h1 := hd.le
  have h2 := hd.cd
  rw [e44]
  unfold Dk.chk
  by_cases hdn : d.down = true
  · rw [if_pos hdn]
    exact ct hdn rfl
  rw [if_neg hdn]
  refine cf (by simpa using hdn) ?_
  by_cases h3 : o < 0
  · rw [if_pos (.inl h3)]
    exact ct (decide_eq_true h3) rfl
  refine cf (decide_eq_false h3) ?_
  by_cases h4 : k < 0
  · rw [if_pos (.inr (.inl h4))]
    exact ct (decide_eq_true h4) rfl
  refine cf (decide_eq_false h4) ?_
  by_cases h5 : (d.cur.length : Int) < o
  · rw [if_pos (.inr (.inr (.inl h5)))]
    exact ct (decide_eq_true (by omega)) rfl
  refine cf (decide_eq_false (by omega)) ?_
  rw [wrap64 (n := (cn : Int) - o) (by omega) (by omega)]
  by_cases h6 : (d.cur.length : Int) - o < k
  · rw [if_pos (.inr (.inr (.inr h6)))]
    exact ct (decide_eq_true (by omega)) rfl
  · rw [if_neg (by omega)]
    exact cf (decide_eq_false (by omega)) rfl

theorem chk_of {d : Dk} {o n : Int} (h : d.chk o n = 0) : d.down = false ∧ 0 ≤ o ∧ 0 ≤ n ∧ o + n ≤ d.cur.length := by
  unfold Dk.chk at h
  split at h
  · cases h
  · split at h
    · cases h
    · rename_i h1 h2
      refine ⟨by simpa using h1, ?_, ?_, ?_⟩ <;> omega
theorem chk_mk {d : Dk} {o n : Int} (h : d.down = false) (h0 : 0 ≤ o) (h1 : 0 ≤ n) (h2 : o + n ≤ d.cur.length) : d.chk o n = 0 := by
  unfold Dk.chk
  rw [if_neg (by simp [h]), if_neg (by omega)]
theorem rd_of {d : Dk} {o n : Int} (h : d.chk o n = 0) : d.rd o n = subL d.cur o.toNat (o + n).toNat := by
  unfold Dk.rd
  rw [if_pos h]

theorem k35 (o k : Int) (un cn : Nat) (d : Dk) (h : okDk un cn d = true) : runF E (callOf L44) 1 35 [.one (.ptr 0 0), .one (.int .i64 o), .one (.int .i64 k)] (dB un cn d) = some ([.one (.sl false 5 (d.rd o k)), .one (.int .i64 (d.chk o k))], dB un cn d) := by
  obtain ⟨hu, hc, hd⟩ := okDk_of h
  have h1 := hd.le
  have h2 := hd.cd
  have h3 := hd.pos
  obtain ⟨du, cu, qu, am, lf, dn⟩ := d
  rw [e35]
  refine ct h ?_
  by_cases h0 : Dk.chk ⟨du, cu, qu, am, lf, dn⟩ o k = 0
  · have hh := chk_of h0
    rw [rd_of h0, h0]
    dsimp only at *
    rw [wrap64 (n := o + k) (by omega) (by omega)]
    refine cf rfl (ct (nblt_of (by omega)) (ct (inB_le (by omega) (by omega)) (ct (inB_le (by omega) (by omega)) (ct (nble_of (by omega)) (ct (fits_mk (by rw [subL_len (by omega)]; simp only [List.length_nil]; omega)) ?_)))))
    have e1 : 0 + o.toNat + ((o + k).toNat - o.toNat) = (o + k).toNat := by omega
    rw [e1, Nat.zero_add, List.nil_append]
  · refine ct (by simpa using h0) ?_
    unfold Dk.rd
    rw [if_neg h0]

/- WRITING -/

theorem pcN_of {o : Int} {n : Nat} (h0 : 0 ≤ o) (hn : 0 < n) : 1 ≤ pcN o n ∧ pcN o n ≤ n ∧ (pcN o n : Int) ≤ 32 ∧ ((if IntKind.wrap .i64 (32 - Int.tmod o 32) < (n : Int) then IntKind.wrap .i64 (32 - Int.tmod o 32) else (n : Int)) = (pcN o n : Int)) := by
  unfold pcN
  rw [minN_eq, Int.tmod_eq_emod_of_nonneg h0, wrap64 (by omega) (by omega)]
  refine ⟨by omega, by omega, by omega, ?_⟩
  split <;> omega

theorem wrF_zero (k : Nat) (d : Dk) (o : Int) : wrF k d o [] = ⟨d, 0⟩ := by
  cases k <;> simp [wrF]

theorem l36 (un cn : Nat) : ∀ (k : Nat) (d : Dk) (o : Int) (x : List (List Cell)), x.length ≤ k → un = d.dur.length → cn = d.cur.length → d.cur.length ≤ 65536 → 0 ≤ o → o + x.length ≤ d.cur.length → d.q.length + x.length ≤ 4000000 → 0 ≤ d.left ∧ d.left ≤ 9223372036854775807 →
    ∃ m, goF E (callOf L35) F36 3 m P36_0 (M36_0 o x un cn d.q d.arm d.left d.down d.dur d.cur) = some ([.one (.int .i64 (wrF (k + 1) d o x).e)], dB un cn (wrF (k + 1) d o x).d) := by
  intro k
  induction k with
  | zero =>
    intro d o x hx hu hc hl h0 ho hq hlf
    have hx0 : x = [] := List.eq_nil_of_length_eq_zero (by omega)
    subst hx0
    refine ⟨1, ?_⟩
    rw [e36_0, wrF_zero]
    exact cf (decide_eq_false (by simp)) rfl
  | succ k ih =>
    intro d o x hx hu hc hl h0 ho hq hlf
    by_cases hx0 : x.length = 0
    · have hx0 : x = [] := List.eq_nil_of_length_eq_zero (by omega)
      subst hx0
      refine ⟨1, ?_⟩
      rw [e36_0, wrF_zero]
      exact cf (decide_eq_false (by simp)) rfl
    obtain ⟨p1, p2, p3, p4⟩ := pcN_of (o := o) (n := x.length) h0 (by omega)
    obtain ⟨du, cu, qu, am, lf, dn⟩ := d
    dsimp only at *
    rw [wrF, if_neg hx0]
    generalize hp : pcN o x.length = p at p1 p2 p3 p4
    have hol : (overL cu o.toNat (x.take p)).length = cu.length := overL_len (by rw [List.length_take]; omega)
    have hrec : ∀ (lf' : Int), (0 ≤ lf' ∧ lf' ≤ 9223372036854775807) → ∃ m, goF E (callOf L35) F36 3 m P36_0 (M36_0 (o + p) (x.drop p) un cn (qu ++ [pcR o (x.take p)]) am lf' dn du (overL cu o.toNat (x.take p))) =
        some ([.one (.int .i64 (wrF (k + 1) ⟨du, overL cu o.toNat (x.take p), qu ++ [pcR o (x.take p)], am, lf', dn⟩ (o + p) (x.drop p)).e)], dB un cn (wrF (k + 1) ⟨du, overL cu o.toNat (x.take p), qu ++ [pcR o (x.take p)], am, lf', dn⟩ (o + p) (x.drop p)).d) := fun lf' hlf' =>
      ih ⟨du, overL cu o.toNat (x.take p), qu ++ [pcR o (x.take p)], am, lf', dn⟩ (o + p) (x.drop p) (by simp; omega) hu (by simp [hol, hc]) (by simp [hol]; omega) (by omega) (by simp [hol]; omega) (by simp; omega) hlf'
    have step : ∀ (K : Option (List AV × List Block)) (cn' : Nat), cn' = cu.length → 
      (cond (Nat.blt 0 cn') (cond (inB (o + p) (cn' + 1)) (cond (decide (o + (p : Int) = o + p)) (cond (inB o ((Int.toNat (o + p)) + 1)) (cond (Nat.blt 0 cu.length) (cond (Nat.ble ((0 + o.toNat) + ((Int.toNat (o + p)) - o.toNat)) cu.length)
        (cond (inB (p : Int) (x.length + 1)) (cond (fits (([] : List (List Cell)).length + (x.take p).length)) (cond (fits (qu.length + [[Cell.int .i64 o, Cell.slice 5 (([] : List (List Cell)) ++ (x.take p))]].length)) (cond (inB (p : Int) (x.length + 1)) K none) none) none) none) none) none) none) none) none) none) = K := by
      intro K cn' hcn
      refine ct (nblt_of (by omega)) (ct (inB_le (by omega) (by omega)) (ct (decide_eq_true rfl) (ct (inB_le (by omega) (by omega)) (ct (nblt_of (by omega)) (ct (nble_of (by omega)) (ct (inB_le (by omega) (by omega)) (ct (fits_mk (by simp; omega)) (ct (fits_mk (by simp; omega)) (ct (inB_le (by omega) (by omega)) rfl)))))))))
    have hz : 0 + o.toNat = o.toNat := by omega
    have hmin : minN ((o + (p : Int)).toNat - o.toNat) x.length = p := by rw [minN_eq]; omega
    have fin : ∀ (lf' : Int), (0 ≤ lf' ∧ lf' ≤ 9223372036854775807) → ∃ m, goF E (callOf L35) F36 3 m P36_0 (M36_0 (o + p) (dropN x p) un cn (qu ++ [[Cell.int .i64 o, Cell.slice 5 (([] : List (List Cell)) ++ (takeN x p))]]) am lf' dn du (overL cu (0 + o.toNat) (takeN x (minN ((o + (p : Int)).toNat - o.toNat) x.length)))) =
        some ([.one (.int .i64 (wrF (k + 1) ⟨du, overL cu o.toNat (x.take p), qu ++ [pcR o (x.take p)], am, lf', dn⟩ (o + p) (x.drop p)).e)], dB un cn (wrF (k + 1) ⟨du, overL cu o.toNat (x.take p), qu ++ [pcR o (x.take p)], am, lf', dn⟩ (o + p) (x.drop p)).d) := by
      intro lf' hlf'
      rw [hz, hmin, takeN_eq, dropN_eq, List.nil_append]
      exact hrec lf' hlf'
    cases am with
    | true =>
      by_cases h3 : lf = 0
      · refine ⟨1, ?_⟩
        rw [e36_0, if_pos ⟨rfl, h3⟩]
        exact ct (decide_eq_true (by omega)) (ct rfl (ct (by simp [h3]) rfl))
      · rw [if_neg (by simp [h3]), if_pos rfl]
        obtain ⟨m, hm⟩ := fin (lf - 1) (by omega)
        refine ⟨m + 1, ?_⟩
        rw [e36_0]
        dsimp only
        rw [p4, wrap64 (n := o + (p : Int)) (by omega) (by omega), wrap64 (n := lf - 1) (by omega) (by omega), Int.toNat_natCast]
        refine ct (decide_eq_true (by omega)) (ct rfl (cf (by simpa using h3) (ct rfl ?_)))
        rw [← takeN_eq] at step
        exact (step _ cn hc).trans hm
    | false =>
      rw [if_neg (by simp), if_neg (by simp)]
      obtain ⟨m, hm⟩ := fin lf hlf
      refine ⟨m + 1, ?_⟩
      rw [e36_0]
      dsimp only
      rw [p4, wrap64 (n := o + (p : Int)) (by omega) (by omega), Int.toNat_natCast]
      refine ct (decide_eq_true (by omega)) (cf rfl (cf rfl ?_))
      rw [← takeN_eq] at step
      exact (step _ cn hc).trans hm

theorem k36 (o : Int) (x : List (List Cell)) (un cn : Nat) (d : Dk) (h : okDk un cn d = true) (hx : okB x = true) (hq : d.q.length + x.length ≤ 4000000) : ∃ m, runF E (callOf L35) m 36 [.one (.ptr 0 0), .one (.int .i64 o), .one (.sl false 5 x)] (dB un cn d) =
    some ([.one (.int .i64 (d.write o x).e)], dB un cn (d.write o x).d) := by
  obtain ⟨hu, hc, hd⟩ := okDk_of h
  have h1 := hd.le
  have h2 := hd.cd
  unfold Dk.write
  by_cases h0 : d.chk o x.length = 0
  · have hh := chk_of h0
    rw [if_neg (by simp [h0])]
    obtain ⟨m, hm⟩ := l36 un cn x.length d o x (Nat.le_refl _) hu hc (by omega) hh.2.1 hh.2.2.2 hq hd.left
    refine ⟨m + 1, ?_⟩
    rw [e36]
    exact ct h (cf (by simpa using h0) hm)
  · rw [if_pos h0]
    refine ⟨1, ?_⟩
    rw [e36]
    exact ct h (ct (by simpa using h0) rfl)

/- WHAT IS WRITTEN ARRIVES -/

theorem putR_len {b : List (List Cell)} {r : List Cell} {n : Nat} (h : okPc n r = true) (hn : n = b.length) : (putR b r).length = b.length := by
  have := okPc_of h
  exact overL_len (by omega)
theorem putR_okB {b : List (List Cell)} {r : List Cell} {n : Nat} (h : okPc n r = true) (hb : okB b = true) : okB (putR b r) = true := okB_over hb (okPc_of h).2.2 _
theorem putQ_len {n : Nat} : ∀ {q b : List (List Cell)}, (∀ r ∈ q, okPc n r = true) → n = b.length → (putQ b q).length = b.length
  | [], _, _, _ => rfl
  | r :: q, b, h, hn => by
    have h1 := putR_len (h r (List.mem_cons_self)) hn
    rw [putQ, putQ_len (n := n) (fun s hs => h s (List.mem_cons_of_mem _ hs)) (by omega), h1]
theorem putQ_okB {n : Nat} : ∀ {q b : List (List Cell)}, (∀ r ∈ q, okPc n r = true) → okB b = true → okB (putQ b q) = true
  | [], _, _, hb => hb
  | r :: q, b, h, hb => putQ_okB (q := q) (fun s hs => h s (List.mem_cons_of_mem _ hs)) (putR_okB (h r List.mem_cons_self) hb)

theorem put_eq {b : List (List Cell)} {r : List Cell} {n : Nat} (h : okPc n r = true) (hn : n = b.length) : overL b (0 + (nr r 0).toNat) (takeN (nl r 1) (minN (n - (nr r 0).toNat) (nl r 1).length)) = putR b r := by
  have := okPc_of h
  rw [minN_eq, takeN_eq, Nat.zero_add, List.take_of_length_le (by omega)]
  rfl

theorem l20 (un cn : Nat) (d : Dk) : ∀ (k i : Nat) (b : List (List Cell)), i + k = d.q.length → d.q.length ≤ 4000000 → un = b.length → 0 < un → (∀ r ∈ d.q, okPc un r = true) →
    ∃ m, goF E (callOf L36) F20 3 m P20_0 (M20_0 d.q d.q.length i un cn d.q d.arm d.left d.down b d.cur) = some ([.one (.int .i64 0)], dB un cn ⟨putQ b (d.q.drop i), d.cur, [], d.arm, d.left, d.down⟩) := by
  intro k
  induction k with
  | zero =>
    intro i b h hq hb hp hr
    refine ⟨1, ?_⟩
    rw [e20_0, List.drop_eq_nil_of_le (by omega)]
    exact cf (decide_eq_false (by omega)) rfl
  | succ k ih =>
    intro i b h hq hb hp hr
    have hm : Abs.rowAt d.q i ∈ d.q := by
      have : d.q.drop i = Abs.rowAt d.q i :: d.q.drop (i + 1) := drop_cons d.q i (by omega)
      exact List.mem_of_mem_drop (this ▸ List.mem_cons_self : Abs.rowAt d.q i ∈ d.q.drop i)
    have hpc := hr _ hm
    have hh := okPc_of hpc
    obtain ⟨m, hm⟩ := ih (i + 1) (putR b (Abs.rowAt d.q i)) (by omega) hq (by rw [putR_len hpc hb]; exact hb) hp hr
    refine ⟨m + 1, ?_⟩
    rw [e20_0, drop_cons d.q i (by omega), putQ, Int.toNat_natCast, put_eq hpc hb, wrap64 (n := (i : Int) + 1) (by omega) (by omega)]
    refine ct (decide_eq_true (by omega)) (ct (inB_nat' (by omega)) (ct (nblt_of hp) (ct (inB_le (by omega) (by omega)) (ct (nblt_of (by omega)) (ct (nble_of (by omega)) ?_)))))
    exact_mod_cast hm

theorem k20 (un cn : Nat) (d : Dk) (h : okDk un cn d = true) : ∃ m, runF E (callOf L36) m 20 [.one (.ptr 0 0)] (dB un cn d) = some ([.one (.int .i64 d.sync.e)], dB un cn d.sync.d) := by
  obtain ⟨hu, hc, hd⟩ := okDk_of h
  have h3 := hd.pos
  unfold Dk.sync
  by_cases hdn : d.down = true
  · rw [if_pos hdn]
    refine ⟨1, ?_⟩
    rw [e20]
    have e : Dk.chk d 0 0 = 15 := by unfold Dk.chk; rw [if_pos hdn]
    exact ct h (ct (by rw [e]; rfl) (by rw [e]))
  · rw [if_neg hdn]
    obtain ⟨m, hm⟩ := l20 un cn d d.q.length 0 d.dur (by omega) hd.ql hu (by omega) (fun r hr => hu ▸ hd.q r hr)
    refine ⟨m + 1, ?_⟩
    rw [e20]
    have e : Dk.chk d 0 0 = 0 := chk_mk (by simpa using hdn) (by omega) (by omega) (by omega)
    exact ct h (cf (by rw [e]; rfl) hm)

/- FAILING, CRASHING -/

theorem k39 (k : Int) (un cn : Nat) (d : Dk) : runF E (callOf L20) 1 39 [.one (.ptr 0 0), .one (.int .i64 k)] (dB un cn d) = some ([], dB un cn (d.fail k)) := by
  obtain ⟨du, cu, qu, am, lf, dn⟩ := d
  rw [e39]
  cases dn with
  | true => rfl
  | false => rfl

theorem keepN_of (k : Int) (n : Nat) : keepN k n ≤ n ∧ (if (if (n : Int) < k then (n : Int) else k) > 0 then (if (n : Int) < k then (n : Int) else k) else 0) = (keepN k n : Int) := by
  unfold keepN
  refine ⟨?_, ?_⟩ <;> (repeat' split) <;> omega

theorem nr_pcR (o : Int) (x : List (List Cell)) : nr (pcR o x) 0 = o := rfl
theorem nl_pcR (o : Int) (x : List (List Cell)) : nl (pcR o x) 1 = x := rfl
theorem torn_ok {n : Nat} {r : List Cell} (h : okPc n r = true) (t : Int) : okPc n (tornR r t) = true := by
  have := okPc_of h
  have hk := (keepN_of t (nl r 1).length).1
  refine okPc_mk ?_ ?_ ?_
  · exact this.1
  · show nr r 0 + (List.length ((nl r 1).take _) : Int) ≤ n
    rw [List.length_take]; omega
  · exact okB_take this.2.2 _
theorem crashB_len {d : Dk} (hd : DkOk d) (k t : Int) : (crashB d k t).length = d.dur.length := by
  have h1 : ∀ j, (putQ d.dur (d.q.take j)).length = d.dur.length := fun j => putQ_len (n := d.dur.length) (fun r hr => hd.q r (List.mem_of_mem_take hr)) rfl
  unfold crashB
  split
  · rename_i hk
    have hm : Abs.rowAt d.q (keepN k d.q.length) ∈ d.q := by
      have : d.q.drop (keepN k d.q.length) = Abs.rowAt d.q (keepN k d.q.length) :: d.q.drop (keepN k d.q.length + 1) := drop_cons d.q _ hk
      exact List.mem_of_mem_drop (this ▸ List.mem_cons_self : Abs.rowAt d.q (keepN k d.q.length) ∈ d.q.drop (keepN k d.q.length))
    rw [putR_len (torn_ok (hd.q _ hm) t) (h1 _).symm, h1]
  · exact h1 _
theorem crashB_okB {d : Dk} (hd : DkOk d) (k t : Int) : okB (crashB d k t) = true := by
  have h1 : ∀ j, okB (putQ d.dur (d.q.take j)) = true := fun j => putQ_okB (n := d.dur.length) (fun r hr => hd.q r (List.mem_of_mem_take hr)) hd.bd
  unfold crashB
  split
  · rename_i hk
    have hm : Abs.rowAt d.q (keepN k d.q.length) ∈ d.q := by
      have : d.q.drop (keepN k d.q.length) = Abs.rowAt d.q (keepN k d.q.length) :: d.q.drop (keepN k d.q.length + 1) := drop_cons d.q _ hk
      exact List.mem_of_mem_drop (this ▸ List.mem_cons_self : Abs.rowAt d.q (keepN k d.q.length) ∈ d.q.drop (keepN k d.q.length))
    exact putR_okB (torn_ok (hd.q _ hm) t) (h1 _)
  · exact h1 _

theorem over_all {a b : List (List Cell)} (h : a.length = b.length) : overL a 0 b = b := by
  rw [overL_eq]
  simp [h]

theorem l40 (un cn : Nat) (d : Dk) (hd : DkOk d) (hu : un = d.dur.length) (hc : cn = d.cur.length) (k t : Int) : ∀ (j i : Nat) (b : List (List Cell)), i + j = keepN k d.q.length → b = putQ d.dur (d.q.take i) →
    ∃ m, goF E (callOf L39) F40 3 m P40_0 (M40_0 (keepN k d.q.length : Nat) (d.q.take (keepN k d.q.length)) ((d.q.take (keepN k d.q.length)).length : Nat) i un cn d.q d.arm d.left d.down b d.cur k t) = some ([], dB un cn (d.crash k t)) := by
  have hk := (keepN_of k d.q.length).1
  have hql := hd.ql
  have hps := hd.pos
  have hcd := hd.cd
  intro j
  induction j with
  | zero =>
    intro i b h hb
    have hi : i = keepN k d.q.length := by omega
    subst hi
    have hbl : b.length = d.dur.length := by rw [hb]; exact putQ_len (n := d.dur.length) (fun r hr => hd.q r (List.mem_of_mem_take hr)) rfl
    refine ⟨1, ?_⟩
    rw [e40_0]
    dsimp only
    refine cf (decide_eq_false (by rw [List.length_take]; omega)) ?_
    have hcl := crashB_len hd k t
    unfold Dk.crash
    by_cases h1 : keepN k d.q.length < d.q.length
    · have hm : Abs.rowAt d.q (keepN k d.q.length) ∈ d.q := by
        have : d.q.drop (keepN k d.q.length) = Abs.rowAt d.q (keepN k d.q.length) :: d.q.drop (keepN k d.q.length + 1) := drop_cons d.q _ h1
        exact List.mem_of_mem_drop (this ▸ List.mem_cons_self : Abs.rowAt d.q (keepN k d.q.length) ∈ d.q.drop (keepN k d.q.length))
      have hpc := hd.q _ hm
      have hh := okPc_of hpc
      have hcr : crashB d k t = putR b (tornR (Abs.rowAt d.q (keepN k d.q.length)) t) := by
        unfold crashB
        rw [if_pos h1, ← hb]
      rw [hcr] at hcl ⊢
      rw [Int.toNat_natCast, (keepN_of t _).2, Int.toNat_natCast]
      have hkt := (keepN_of t (nl (Abs.rowAt d.q (keepN k d.q.length)) 1).length).1
      have e := put_eq (torn_ok hpc t) (n := d.dur.length) (b := b) hbl.symm
      rw [show nr (tornR (Abs.rowAt d.q (keepN k d.q.length)) t) 0 = nr (Abs.rowAt d.q (keepN k d.q.length)) 0 from rfl, show nl (tornR (Abs.rowAt d.q (keepN k d.q.length)) t) 1 = (nl (Abs.rowAt d.q (keepN k d.q.length)) 1).take (keepN t (nl (Abs.rowAt d.q (keepN k d.q.length)) 1).length) from rfl] at e
      simp only [takeN_eq] at e ⊢
      rw [hu, e]
      refine ct (decide_eq_true (by omega)) (ct (inB_nat' h1) (ct (nblt_of (by omega)) (ct (inB_le (by omega) (by omega)) (ct (inB_le (by omega) (by omega)) (ct (nblt_of (by omega)) (ct (nble_of (by omega)) (ct (nbeq_of hcl.symm) (ct (nblt_of (by omega)) (ct (nblt_of (by omega)) (ct (nble_of (by omega)) ?_))))))))))
      rw [minN_eq, List.take_of_length_le (by omega), over_all (by omega)]
    · have hcr : crashB d k t = b := by
        unfold crashB
        rw [if_neg h1, ← hb]
      rw [hcr]
      refine cf (decide_eq_false (by omega)) (ct (nbeq_of (by omega)) (ct (nblt_of (by omega)) (ct (nblt_of (by omega)) (ct (nble_of (by omega)) ?_))))
      rw [minN_eq, takeN_eq, List.take_of_length_le (by omega), over_all (by omega)]
  | succ j ih =>
    intro i b h hb
    have hi : i < d.q.length := by omega
    have hdc : d.q.drop i = Abs.rowAt d.q i :: d.q.drop (i + 1) := drop_cons d.q i hi
    have hm : Abs.rowAt d.q i ∈ d.q := List.mem_of_mem_drop (hdc ▸ List.mem_cons_self : Abs.rowAt d.q i ∈ d.q.drop i)
    have hpc := hd.q _ hm
    have hh := okPc_of hpc
    have hbl : b.length = d.dur.length := by rw [hb]; exact putQ_len (n := d.dur.length) (fun r hr => hd.q r (List.mem_of_mem_take hr)) rfl
    have hta : d.q.take (i + 1) = d.q.take i ++ [Abs.rowAt d.q i] := by
      have e1 : d.q.take (i + 1) = d.q.take i ++ (d.q.drop i).take 1 := List.take_add
      rw [e1, hdc]; rfl
    have hpa : ∀ (p : List (List Cell)) (b : List (List Cell)) (r : List Cell), putQ b (p ++ [r]) = putR (putQ b p) r := by
      intro p
      induction p with
      | nil => intro b r; rfl
      | cons s p ih => intro b r; exact ih (putR b s) r
    obtain ⟨m, hm⟩ := ih (i + 1) (putR b (Abs.rowAt d.q i)) (by omega) (by rw [hta, hpa, hb])
    have hrow : Abs.rowAt (d.q.take (keepN k d.q.length)) i = Abs.rowAt d.q i := by
      have h2 := drop_cons (d.q.take (keepN k d.q.length)) i (by rw [List.length_take]; omega)
      rw [List.drop_take, hdc, show keepN k d.q.length - i = (keepN k d.q.length - i - 1) + 1 by omega, List.take_succ_cons] at h2
      exact (List.cons.inj h2).1.symm
    refine ⟨m + 1, ?_⟩
    have hpe := put_eq hpc hbl.symm
    rw [e40_0]
    dsimp only
    rw [Int.toNat_natCast, Int.toNat_natCast, hrow, hu, hpe, wrap64 (n := (i : Int) + 1) (by omega) (by omega)]
    refine ct (decide_eq_true (by rw [List.length_take]; omega)) (ct (inB_nat' (by rw [List.length_take]; omega)) (ct (nblt_of (by omega)) (ct (inB_le (by omega) (by omega)) (ct (nblt_of (by omega)) (ct (nble_of (by omega)) ?_)))))
    rw [hu] at hm
    exact_mod_cast hm

theorem k40 (k t : Int) (un cn : Nat) (d : Dk) (h : okDk un cn d = true) : ∃ m, runF E (callOf L39) m 40 [.one (.ptr 0 0), .agg [.int .i64 k, .int .i64 t]] (dB un cn d) = some ([], dB un cn (d.crash k t)) := by
  obtain ⟨hu, hc, hd⟩ := okDk_of h
  have hk := keepN_of k d.q.length
  obtain ⟨m, hm⟩ := l40 un cn d hd hu hc k t (keepN k d.q.length) 0 d.dur (by omega) (by simp [putQ])
  refine ⟨m + 1, ?_⟩
  rw [e40, hk.2, Int.toNat_natCast, takeN_eq]
  exact ct (inB_le (by omega) (by omega)) (by exact_mod_cast hm)

theorem k24 (un cn : Nat) (d : Dk) (h : okDk un cn d = true) : runF E (callOf L40) 1 24 [.one (.ptr 0 0)] (dB un cn d) = some ([.one (.str d.all)], dB un cn d) := by
  obtain ⟨hu, hc, hd⟩ := okDk_of h
  have h1 := hd.le
  have h2 := hd.cd
  have h3 := hd.sec
  rw [e24]
  refine ct h (ct h ?_)
  have e : Dk.rd d 0 (IntKind.wrap .i64 (secs d.dur * 32)) = if d.down = true then [] else d.cur := by
    unfold secs
    rw [wrap64 (by omega) (by omega)]
    by_cases hdn : d.down = true
    · unfold Dk.rd Dk.chk
      simp [hdn]
    · rw [rd_of (chk_mk (by simpa using hdn) (by omega) (by omega) (by omega)), if_neg hdn, subL_eq, List.take_of_length_le (by omega)]
      rfl
  have e2 : (Dk.mk d.dur d.cur d.q d.arm d.left d.down) = d := rfl
  rw [e2, e]
  unfold Dk.all
  split <;> rfl

end Go.Proofs.Ytpafnokcmhlbgaa
