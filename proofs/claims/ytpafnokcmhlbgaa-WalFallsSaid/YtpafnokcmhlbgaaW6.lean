/-
  The contracts of the log: what it reads, what it writes.
-/
import Derived.Test.YtpafnokcmhlbgaaW5
import Derived.Test.YtpafnokcmhlbgaaEq2
namespace Go.Proofs.Ytpafnokcmhlbgaa
open Go.Abs

abbrev lV (p : Nat) (l : Lg) : Block := .var [.ptr p 0, .int .i64 l.act, .int .u64 l.gen, .sl true 22 l.recs, .int .i64 l.fin, .bool l.failed]
abbrev dV1 (un cn : Nat) (d : Dk) : Block := .var [.msl 5 2 un, .msl 5 3 cn, .sl true 85 d.q, .bool d.arm, .int .i64 d.left, .bool d.down]
abbrev lB (un cn : Nat) (d : Dk) (l : Lg) : List Block := [lV 1 l, dV1 un cn d, .arr 5 d.dur, .arr 5 d.cur]

theorem dk_eta (d : Dk) : Dk.mk d.dur d.cur d.q d.arm d.left d.down = d := rfl
theorem lg_eta (l : Lg) : Lg.mk l.act l.gen l.recs l.fin l.failed = l := rfl

theorem k70 (un cn : Nat) (d : Dk) (h : okDk un cn d = true) : runF E (callOf L24) 1 70 [.one (.ptr 0 0)] (dB un cn d) = some ([.one (.int .i64 d.half)], dB un cn d) := by
  obtain ⟨hu, hc, hd⟩ := okDk_of h
  have h1 := hd.le
  rw [e70]
  refine ct h ?_
  have e : IntKind.wrap .i64 (IntKind.wrap .i64 (Int.tdiv (secs d.dur) 2) * 32) = d.half := by
    unfold secs Dk.half
    rw [Int.tdiv_eq_ediv_of_nonneg (by omega), wrap64 (n := ((d.dur.length / 32 : Nat) : Int) / 2) (by omega) (by omega), wrap64 (by omega) (by omega)]
    omega
  rw [e]
theorem seg_half {d : Dk} (hd : DkOk d) {s : Int} (hs : s = 0 ∨ s = 1) : 0 ≤ s * d.half ∧ s * d.half + d.half ≤ d.dur.length ∧ s * d.half ≤ 32768 := by
  have := half_of hd
  rcases hs with rfl | rfl
  · rw [Int.zero_mul]; omega
  · rw [Int.one_mul]; omega
theorem k45 (s : Int) (un cn : Nat) (d : Dk) (l : Lg) (h : okDk un cn d = true) (hs : okSeg s = true) : runF E (callOf L70) 1 45 [.one (.ptr 0 0), .one (.int .i64 s)] (lB un cn d l) = some ([.one (.int .i64 (s * d.half))], lB un cn d l) := by
  obtain ⟨hu, hc, hd⟩ := okDk_of h
  have := seg_half hd (seg_of hs)
  rw [e45]
  refine ct h ?_
  rw [dk_eta, wrap64 (n := s * d.half) (by omega) (by omega)]
theorem k47 (s : Int) (un cn : Nat) (d : Dk) (l : Lg) (h : okDk un cn d = true) (hs : okSeg s = true) : runF E (callOf L45) 1 47 [.one (.ptr 0 0), .one (.int .i64 s)] (lB un cn d l) = some ([.one (.int .i64 (s * d.half + 32))], lB un cn d l) := by
  obtain ⟨hu, hc, hd⟩ := okDk_of h
  have := seg_half hd (seg_of hs)
  rw [e47]
  refine ct (and_mk h hs) ?_
  rw [dk_eta, wrap64 (n := s * d.half + 32) (by omega) (by omega)]
theorem k48 (un cn : Nat) (d : Dk) (l : Lg) (h : okDk un cn d = true) : runF E (callOf L47) 1 48 [.one (.ptr 0 0)] (lB un cn d l) = some ([.one (.int .i64 (d.half - 32))], lB un cn d l) := by
  obtain ⟨hu, hc, hd⟩ := okDk_of h
  have := half_of hd
  rw [e48]
  refine ct h ?_
  rw [dk_eta, wrap64 (n := d.half - 32) (by omega) (by omega)]

theorem okWx_mk {d : Dk} {x : List (List Cell)} (hx : okB x = true) (hq : d.q.length + x.length ≤ 4000000) : okWx d x = true := and_mk hx (pd_t hq)
theorem okWx_of {d : Dk} {x : List (List Cell)} (h : okWx d x = true) : okB x = true ∧ d.q.length + x.length ≤ 4000000 := by
  unfold okWx at h
  simp only [Bool.and_eq_true] at h
  exact ⟨h.1, pd_of h.2⟩
theorem kept_ok {un cn : Nat} {a b : Dk} {k : Nat} (h : okDk un cn a = true) (i : Kept a b k) : okDk un cn b = true := by
  obtain ⟨hu, hc, hd⟩ := okDk_of h
  exact okDk_mk (by rw [i.len]; exact hu) (by rw [i.ok.cd, i.len, hc]; exact hd.cd) i.ok

theorem k50 (o : Int) (x : List (List Cell)) (un cn : Nat) (d : Dk) (l : Lg) (h : okDk un cn d = true) (hx : okWx d x = true) : runF E (callOf L48) 1 50 [.one (.ptr 0 0), .one (.int .i64 o), .one (.sl false 5 x)] (lB un cn d l) =
    some ([.one (.int .i64 (d.store o x).e)], lB un cn (d.store o x).d ⟨l.act, l.gen, l.recs, l.fin, (d.store o x).e != 0⟩) := by
  obtain ⟨hu, hc, hd⟩ := okDk_of h
  obtain ⟨hb, hq⟩ := okWx_of hx
  have hk := write_kept (o := o) hd hb hq
  rw [e50]
  dsimp only
  refine ct (and_mk h hx) ?_
  have e : Dk.mk d.dur d.cur d.q d.arm d.left d.down = d := rfl
  rw [e]
  unfold Dk.store
  by_cases h0 : (d.write o x).e = 0
  · rw [if_pos h0]
    exact ct (by simpa using h0) (ct (kept_ok h hk) rfl)
  · rw [if_neg h0]
    exact cf (by simpa using h0) rfl

theorem cloneR_app (a b : List (List Cell)) : cloneR (a ++ b) = cloneR a ++ cloneR b := by
  induction a with
  | nil => rfl
  | cons r a ih => simp [cloneR, ih]
theorem cloneR_len (a : List (List Cell)) : (cloneR a).length = a.length := by
  induction a with
  | nil => rfl
  | cons r a ih => simp [cloneR, ih]
theorem okRs_of {r : List (List Cell)} (h : okRs r = true) : r.length ≤ 65536 ∧ ∀ q ∈ r, okB (nl q 0) = true ∧ (nl q 0).length ≤ 30000 := by
  unfold okRs at h
  simp only [Bool.and_eq_true, List.all_eq_true] at h
  exact ⟨pd_of h.1, fun q hq => ⟨(h.2 q hq).1, pd_of (h.2 q hq).2⟩⟩
theorem okRs_mk {r : List (List Cell)} (h1 : r.length ≤ 65536) (h2 : ∀ q ∈ r, okB (nl q 0) = true ∧ (nl q 0).length ≤ 30000) : okRs r = true := by
  unfold okRs
  refine and_mk (pd_t h1) ?_
  rw [List.all_eq_true]; exact fun q hq => and_mk (h2 q hq).1 (pd_t (h2 q hq).2)
theorem okRl_of {r : List (List Cell)} (h : okRl r = true) : r.length ≤ 65536 ∧ ∀ q ∈ r, okB (nl q 0) = true := by
  unfold okRl at h
  simp only [Bool.and_eq_true, List.all_eq_true] at h
  exact ⟨pd_of h.1, h.2⟩
theorem okRl_mk {r : List (List Cell)} (h1 : r.length ≤ 65536) (h2 : ∀ q ∈ r, okB (nl q 0) = true) : okRl r = true := by
  unfold okRl
  refine and_mk (pd_t h1) ?_
  rw [List.all_eq_true]; exact h2
theorem rowAt_mem {x : List (List Cell)} {i : Nat} (h : i < x.length) : Abs.rowAt x i ∈ x := by
  have hd : x.drop i = Abs.rowAt x i :: x.drop (i + 1) := drop_cons x i h
  exact List.mem_of_mem_drop (hd ▸ List.mem_cons_self : Abs.rowAt x i ∈ x.drop i)

theorem l59 (r : List (List Cell)) (h : okRs r = true) : ∀ (k i : Nat) (acc : List (List Cell)), i + k = r.length → acc.length = i → ∃ m, goF E (callOf L22) F59 0 m P59_0 (M59_0 acc r r.length i) = some ([.one (.sl true 22 (acc ++ cloneR (r.drop i)))], []) := by
  obtain ⟨h1, h2⟩ := okRs_of h
  intro k
  induction k with
  | zero =>
    intro i acc hi ha
    refine ⟨1, ?_⟩
    rw [e59_0, List.drop_eq_nil_of_le (by omega)]
    refine cf (decide_eq_false (by omega)) ?_
    simp [cloneR]
  | succ k ih =>
    intro i acc hi ha
    have hq := h2 _ (rowAt_mem (x := r) (i := i) (by omega))
    obtain ⟨m, hm⟩ := ih (i + 1) (acc ++ [wRow (nl (Abs.rowAt r i) 0)]) (by omega) (by simp; omega)
    refine ⟨m + 1, ?_⟩
    rw [e59_0, drop_cons r i (by omega), Int.toNat_natCast, List.nil_append, wrap64 (n := (i : Int) + 1) (by omega) (by omega)]
    refine ct (decide_eq_true (by omega)) (ct (inB_nat' (by omega)) (ct (fits_mk (by simp; omega)) (ct (fits_mk (by simp; omega)) ?_)))
    rw [cloneR]
    rw [List.append_assoc] at hm
    exact_mod_cast hm
theorem k59 (r : List (List Cell)) (h : okRs r = true) : ∃ m, runF E (callOf L22) m 59 [.one (.sl false 22 r)] [] = some ([.one (.sl true 22 (cloneR r))], []) := by
  obtain ⟨m, hm⟩ := l59 r h r.length 0 [] (by omega) rfl
  exact ⟨m + 1, by rw [e59]; simpa using hm⟩
theorem k28 (un cn : Nat) (d : Dk) (l : Lg) (h : okRs l.recs = true) : runF E (callOf L59) 1 28 [.one (.ptr 0 0)] (lB un cn d l) = some ([.one (.sl true 22 (cloneR l.recs))], lB un cn d l) := by
  rw [e28]
  exact ct h rfl
theorem k29 (un cn : Nat) (d : Dk) (l : Lg) : runF E (callOf L28) 1 29 [.one (.ptr 0 0)] (lB un cn d l) = some ([.one (.int .u64 l.gen)], lB un cn d l) := by rw [e29]

theorem okLg_of {d : Dk} {l : Lg} (h : okLg d l = true) : LgOk d l := by
  unfold okLg at h
  simpa using h
theorem okLg_mk {d : Dk} {l : Lg} (h : LgOk d l) : okLg d l = true := by
  unfold okLg
  simpa using h
theorem kept_lg {a b : Dk} {k : Nat} {l : Lg} (h : LgOk a l) (i : Kept a b k) : LgOk b l := by
  have e := i.half
  exact ⟨h.act, h.gen, by rw [e]; exact h.half, by rw [e]; exact h.fin, h.recs⟩
theorem sbs (a b c e : Block) : (true && (sb1 a && (sb1 b && (sb1 c && (sb1 e && true))))) = true := by simp [sb1_t]

theorem free_of {d : Dk} {l : Lg} (hd : DkOk d) (hl : LgOk d l) : 0 ≤ l.free d ∧ l.free d ≤ 32768 ∧ l.fin ≤ 32768 := by
  have h1 := half_of hd
  have h2 := hl.fin
  unfold Lg.free
  omega
theorem k30 (un cn : Nat) (d : Dk) (l : Lg) (h : okDk un cn d = true) (hl : okLg d l = true) : runF E (callOf L29) 1 30 [.one (.ptr 0 0)] (lB un cn d l) = some ([.one (.int .i64 (l.free d))], lB un cn d l) := by
  obtain ⟨hu, hc, hd⟩ := okDk_of h
  have h1 := free_of hd (okLg_of hl)
  unfold Lg.free at h1 ⊢
  rw [e30]
  refine ct h (ct (sbs _ _ _ _) ?_)
  rw [dk_eta, wrap64 (n := d.half - 32 - l.fin) (by omega) (by omega)]
theorem k61 (un cn : Nat) (d : Dk) (l : Lg) : runF E (callOf L30) 1 61 [.one (.ptr 0 0)] (lB un cn d l) = some ([.one (.int .i64 (useE l.failed))], lB un cn d l) := by
  obtain ⟨ac, ge, rc, fi, fa⟩ := l
  rw [e61]
  cases fa <;> rfl
theorem k62 (x : List (List Cell)) : runF E (callOf L61) 1 62 [.one (.sl false 5 x)] [] = some ([.one (.int .i64 (recE x))], []) := by
  rw [e62]
  unfold recE
  by_cases h1 : x.length = 0
  · rw [if_pos h1]
    exact ct (by simp [h1]) rfl
  rw [if_neg h1]
  refine cf (beq_eq_false_iff_ne.mpr (by omega)) ?_
  by_cases h2 : 30000 < x.length
  · rw [if_pos h2]
    exact ct (decide_eq_true (by omega)) rfl
  · rw [if_neg h2]
    exact cf (decide_eq_false (by omega)) rfl

/- APPEND -/

theorem okAp_of {d : Dk} {x : List (List Cell)} (h : okAp d x = true) : okB x = true ∧ d.q.length ≤ 1000000 := by
  unfold okAp at h
  simp only [Bool.and_eq_true] at h
  exact ⟨h.1, pd_of h.2⟩
theorem okAp_mk {d : Dk} {x : List (List Cell)} (hx : okB x = true) (hq : d.q.length ≤ 1000000) : okAp d x = true := and_mk hx (pd_t hq)

theorem recE_of {x : List (List Cell)} (h : recE x = 0) : 1 ≤ x.length ∧ x.length ≤ 30000 := by
  unfold recE at h
  split at h
  · cases h
  · split at h
    · cases h
    · omega

/-- what an append is, when it writes -/
theorem k33w (x : List (List Cell)) (un cn : Nat) (d : Dk) (l : Lg) (h : okDk un cn d = true) (hl : okLg d l = true) (hx : okAp d x = true) : runF E (callOf L62) 1 33 [.one (.ptr 0 0), .one (.sl false 5 x)] (lB un cn d l) =
    some ([.one (.int .i64 (appM d l x).e)], lB un cn (appM d l x).d (appM d l x).l) := by
  obtain ⟨hu, hc, hd⟩ := okDk_of h
  obtain ⟨hb, hq⟩ := okAp_of hx
  have hlg := okLg_of hl
  have hf := free_of hd hlg
  have hfin := hlg.fin
  have hrec := hlg.recs
  have hhl := half_of hd
  have hsg := seg_half hd (s := l.act) (by have := hlg.act; omega)
  have hseg : okSeg l.act = true := seg_mk (by have := hlg.act; omega)
  rw [e33]
  dsimp only
  have e : Dk.mk d.dur d.cur d.q d.arm d.left d.down = d := rfl
  have e2 : Lg.mk l.act l.gen l.recs l.fin l.failed = l := rfl
  rw [e, e2]
  rw [wrap64 (n := l.act * d.half + 32 + l.fin) (by omega) (by omega)]
  unfold appM
  by_cases h1 : l.failed = true
  · rw [if_pos h1]
    refine ct (by rw [h1]; rfl) ?_
    show some ([AV.one (AC.int .i64 (useE l.failed))], lB un cn d l) = some ([.one (.int .i64 15)], lB un cn d l)
    rw [show useE l.failed = 15 by rw [h1]; rfl]
  rw [if_neg h1]
  have h1 : l.failed = false := by simpa using h1
  refine cf (by rw [h1]; rfl) ?_
  by_cases h2 : recE x = 0
  rotate_left
  · rw [if_pos h2]
    exact ct (by simpa using h2) rfl
  rw [if_neg (by simp [h2])]
  refine cf (by simpa using h2) (ct (and_mk h hl) ?_)
  obtain ⟨h3, h4⟩ := recE_of h2
  rw [wrap64 (n := (x.length : Int) + 10) (by omega) (by omega)]
  by_cases h5 : l.free d < x.length + 10
  · rw [if_pos h5]
    exact ct (decide_eq_true h5) rfl
  rw [if_neg h5]
  have hwl := wEnc_len l.gen l.fin x
  have hwb := wEnc_okB l.gen l.fin hb
  refine cf (decide_eq_false h5) (ct (and_mk (okV_mk hlg.gen.1 hlg.gen.2) (and_mk hb (and_mk (pd_t (by omega)) (and_mk (pd_t (by omega)) (pd_t (by omega)))))) (ct (and_mk h hseg) (ct (sbs _ _ _ _) (ct (nbeq_of rfl) (ct (and_mk h (okWx_mk hwb (by omega))) ?_)))))
  by_cases h6 : (d.store (l.act * d.half + 32 + l.fin) (wEnc l.gen l.fin x)).e = 0
  · rw [if_pos h6]
    refine cf (by simpa using h6) (ct (fits_mk (by simp; omega)) (ct (fits_mk (by simp; omega)) ?_))
    rw [hwl, wrap64 (n := l.fin + ((x.length + 10 : Nat) : Int)) (by omega) (by omega), h6]
    have e3 : l.fin + ((x.length + 10 : Nat) : Int) = l.fin + x.length + 10 := by omega
    rw [e3]
    rfl
  · rw [if_neg h6]
    have e4 : ((d.store (l.act * d.half + 32 + l.fin) (wEnc l.gen l.fin x)).e != 0) = true := by simpa using h6
    refine ct e4 ?_
    rw [e4]

end Go.Proofs.Ytpafnokcmhlbgaa
