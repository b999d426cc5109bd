/-
  The contracts of the functions that order certificates; and the laws over them.
-/
import Derived.Test.YtdgijohgncchiaaCert
import Derived.Test.YtdgijohgncchiaaSetC
namespace Go.Proofs.Ytdgijohgncchiaa
open Go.Abs

theorem k42c (c : List (List Cell)) (h : okCl c = true) : ∃ m, runF E (callOf L64) m 42 [.one (.sl false 53 c), .one .nils] [] = some ([.one (.sl false 53 c)], []) := by
  refine ⟨2, ?_⟩
  rw [e42_c1]
  refine ct h ?_
  rw [e42_0_c1]
  exact cf rfl (ct (Nat.beq_refl _) rfl)

theorem k37 (x f t : List (List Cell)) (h : (okSrt t && okSrt x) = true) : runF E (callOf L8) 1 37 [.one (.sl false 53 x), .one (.ptr 0 0)] [.var [.sl false 53 f, .sl false 53 t]] = some ([.one (.bool (newB t x))], [.var [.sl false 53 f, .sl false 53 t]]) := by
  simp only [Bool.and_eq_true] at h
  have hl : okLn x = true := okLn_mk (okSrt_of h.2).1
  rw [e37, h.1, h.2, hl]
  unfold newB
  cases contK t x <;> rfl

theorem k41 (x f t : List (List Cell)) (h : (okSrt t && (okSrt x && okLn f)) = true) : runF E (callOf L37) 1 41 [.one (.sl false 53 x), .one (.ptr 0 0)] [.var [.sl false 53 f, .sl false 53 t]] = some ([.one (.bool (betw f t x))], [.var [.sl false 53 f, .sl false 53 t]]) := by
  simp only [Bool.and_eq_true] at h
  have hl : okLn x = true := okLn_mk (okSrt_of h.2.1).1
  rw [e41, h.1, h.2.1, h.2.2, hl]
  unfold betw
  cases contK t x <;> rfl

theorem okSs_of {l : List (List Cell)} (h : okSs l = true) : l.length ≤ 1000 ∧ ∀ (i : Nat), i < l.length → okSrt (nl (Abs.rowAt l i) 0) = true := by
  unfold okSs at h
  simp only [Bool.and_eq_true, decide_eq_true_eq] at h
  exact ⟨h.1, fun i hi => List.all_eq_true.1 h.2 _ (rowAt_mem hi)⟩

theorem l36 (l f t : List (List Cell)) (ht : okSrt t = true) (hl : okSs l = true) : ∀ (d i : Nat), i + d = l.length →
    ∃ m, goF E (callOf L41) F36 1 m P36_0 (M36_0 l l.length i f t) = some ([.one (.bool (newA t (l.drop i)))], [.var [.sl false 53 f, .sl false 53 t]])
  | 0, i, hi => by
    refine ⟨1, ?_⟩
    have : l.drop i = [] := List.drop_eq_nil_of_le (by omega)
    rw [e36_0, this]
    exact cf (decide_eq_false (by omega)) rfl
  | d + 1, i, hi => by
    have hi' : i < l.length := by omega
    obtain ⟨h1, h2⟩ := okSs_of hl
    obtain ⟨m, hm⟩ := l36 l f t ht hl d (i + 1) (by omega)
    refine ⟨m + 1, ?_⟩
    unfold newA at hm ⊢
    rw [e36_0, Int.toNat_natCast, drop_cons l i hi', List.all_cons, nat_wrap (n := l.length) hi' (by omega), hm, ht, h2 i hi']
    refine ct (decide_eq_true (by omega)) (ct (inB_nat' hi') (ct rfl ?_))
    cases newB t (nl (Abs.rowAt l i) 0) <;> rfl

theorem k36 (l f t : List (List Cell)) (h : (okSrt t && okSs l) = true) : ∃ m, runF E (callOf L41) m 36 [.one (.fn 37 [.ptr 0 0]), .one (.sl false 23 l)] [.var [.sl false 53 f, .sl false 53 t]] = some ([.one (.bool (newA t l))], [.var [.sl false 53 f, .sl false 53 t]]) := by
  simp only [Bool.and_eq_true] at h
  obtain ⟨m, hm⟩ := l36 l f t h.1 h.2 l.length 0 (by omega)
  exact ⟨m + 1, by rw [e36]; exact hm⟩

theorem l36b (l f t : List (List Cell)) (ht : okSrt t = true) (hl : okSs l = true) (hf : okLn f = true) : ∀ (d i : Nat), i + d = l.length →
    ∃ m, goF E (callOf L41) F36 1 m P36_0_c1 (M36_0_c1 l l.length i f t) = some ([.one (.bool (betA f t (l.drop i)))], [.var [.sl false 53 f, .sl false 53 t]])
  | 0, i, hi => by
    refine ⟨1, ?_⟩
    have : l.drop i = [] := List.drop_eq_nil_of_le (by omega)
    rw [e36_0_c1, this]
    exact cf (decide_eq_false (by omega)) rfl
  | d + 1, i, hi => by
    have hi' : i < l.length := by omega
    obtain ⟨h1, h2⟩ := okSs_of hl
    obtain ⟨m, hm⟩ := l36b l f t ht hl hf d (i + 1) (by omega)
    refine ⟨m + 1, ?_⟩
    unfold betA at hm ⊢
    rw [e36_0_c1, Int.toNat_natCast, drop_cons l i hi', List.all_cons, nat_wrap (n := l.length) hi' (by omega), hm, ht, h2 i hi', hf]
    refine ct (decide_eq_true (by omega)) (ct (inB_nat' hi') (ct rfl ?_))
    cases betw f t (nl (Abs.rowAt l i) 0) <;> rfl

theorem k36b (l f t : List (List Cell)) (h : (okSrt t && (okSs l && okLn f)) = true) : ∃ m, runF E (callOf L41) m 36 [.one (.fn 41 [.ptr 0 0]), .one (.sl false 23 l)] [.var [.sl false 53 f, .sl false 53 t]] = some ([.one (.bool (betA f t l))], [.var [.sl false 53 f, .sl false 53 t]]) := by
  simp only [Bool.and_eq_true] at h
  obtain ⟨m, hm⟩ := l36b l f t h.1 h.2.1 h.2.2 l.length 0 (by omega)
  exact ⟨m + 1, by rw [e36_c1]; exact hm⟩

theorem okSs_one {t : List (List Cell)} (h : okSrt t = true) : okSs [[Cell.slice 53 t]] = true := by
  have : nl [Cell.slice 53 t] 0 = t := rfl
  simp [okSs, this, h]

theorem newA_one (t x : List (List Cell)) : newA t [[Cell.slice 53 x]] = newB t x := by
  have : nl [Cell.slice 53 x] 0 = x := rfl
  simp [newA, this]

theorem betA_one (f t x : List (List Cell)) : betA f t [[Cell.slice 53 x]] = betw f t x := by
  have : nl [Cell.slice 53 x] 0 = x := rfl
  simp [betA, this]

theorem k15 (f1 t1 f2 t2 : List (List Cell)) (h : (okSrt t1 && okSrt t2) = true) : runF E (callOf L36) 1 15 [.agg [.sl false 53 f1, .sl false 53 t1], .agg [.sl false 53 f2, .sl false 53 t2]] [] = some ([.one (.bool (newB t1 t2))], []) := by
  simp only [Bool.and_eq_true] at h
  rw [e15, h.1, okSs_one h.2, newA_one]
  rfl

theorem k16 (f1 t1 f2 t2 : List (List Cell)) (h : (okLn t1 && okLn t2) = true) : runF E (callOf L15) 1 16 [.agg [.sl false 53 f1, .sl false 53 t1], .agg [.sl false 53 f2, .sl false 53 t2]] [] = some ([.one (.bool (newR t1 t2))], []) := by
  simp only [Bool.and_eq_true] at h
  rw [e16, h.1, h.2]
  unfold newR
  cases contK t1 t2 <;> rfl

theorem k39 (f t : List (List Cell)) (h : (okCl f && okCl t) = true) : runF E (callOf L16) 1 39 [.agg [.sl false 53 f, .sl false 53 t]] [] = some ([.agg [.sl false 53 f, .sl false 53 t]], []) := by
  simp only [Bool.and_eq_true] at h
  rw [e39, h.1, h.2]
  rfl

theorem k17 (f1 t1 f2 t2 : List (List Cell)) (h : (okSrt t1 && (okSrt t2 && (okCl f1 && (okCl t1 && (okCl f2 && okCl t2))))) = true) : runF E (callOf L39) 1 17 [.agg [.sl false 53 f1, .sl false 53 t1], .agg [.sl false 53 f2, .sl false 53 t2]] [] =
    some ([.agg [.sl false 53 (latest t1 t2 f1 f2), .sl false 53 (latest t1 t2 t1 t2)]], []) := by
  simp only [Bool.and_eq_true] at h
  obtain ⟨h1, h2, h3, h4, h5, h6⟩ := h
  rw [e17, h1, h2, h3, h4, h5, h6]
  unfold latest
  cases newB t2 t1 <;> rfl

theorem k18 (f1 t1 f2 t2 : List (List Cell)) (h : (okLn t1 && okLn t2) = true) : runF E (callOf L17) 1 18 [.agg [.sl false 53 f1, .sl false 53 t1], .agg [.sl false 53 f2, .sl false 53 t2]] [] =
    some ([.agg [.sl false 53 (latestR t1 t2 f1 f2), .sl false 53 (latestR t1 t2 t1 t2)]], []) := by
  simp only [Bool.and_eq_true] at h
  rw [e18, h.1, h.2]
  unfold latestR
  cases newR t2 t1 <;> rfl

theorem k20 (f1 t1 f2 t2 : List (List Cell)) (h : (okSrt t1 && (okSrt t2 && (okLn f1 && (okCl f1 && okCl t2)))) = true) : runF E (callOf L18) 1 20 [.agg [.sl false 53 f1, .sl false 53 t1], .agg [.sl false 53 f2, .sl false 53 t2]] [] =
    some ([.one (.sl false 53 (startT f1 t1 t2))], []) := by
  simp only [Bool.and_eq_true] at h
  obtain ⟨h1, h2, h3, h4, h5⟩ := h
  rw [e20, h1, okSs_one h2, h3, h4, h5, betA_one]
  unfold startT
  cases betw f1 t1 t2 <;> rfl

theorem k21 (f1 t1 f2 t2 : List (List Cell)) (h : (okLn t1 && (okLn t2 && okLn f1)) = true) : runF E (callOf L20) 1 21 [.agg [.sl false 53 f1, .sl false 53 t1], .agg [.sl false 53 f2, .sl false 53 t2]] [] =
    some ([.one (.sl false 53 (startT f1 t1 t2))], []) := by
  simp only [Bool.and_eq_true] at h
  obtain ⟨h1, h2, h3⟩ := h
  rw [e21, h1, h2, h3]
  unfold startT betw
  cases contK t1 t2 <;> cases contK t2 f1 <;> rfl

theorem k13 (f1 t1 f2 t2 : List (List Cell)) (h : ((okSrt f1 && okSrt f2) && (okSrt t1 && okSrt t2)) = true) : runF E (callOf L21) 1 13 [.agg [.sl false 53 f1, .sl false 53 t1], .agg [.sl false 53 f2, .sl false 53 t2]] [] =
    some ([.one (.bool (eqT f1 t1 f2 t2))], []) := by
  simp only [Bool.and_eq_true] at h
  obtain ⟨⟨h1, h2⟩, h3, h4⟩ := h
  rw [e13, h1, h2, h3, h4]
  unfold eqT
  cases (contK f1 f2 && contK f2 f1) <;> rfl

theorem gPart_cf {p : List (List Cell)} (h : okCf p = true) (n : Int) : okCf (gPart p n) = true := by
  obtain ⟨h1, h2⟩ := okCf_of h
  have hl : (gPart p n).length ≤ p.length := List.length_filter_le _ _
  have hp : (gPart p n).all isPR = true := all_sub h2 fun r hr => (List.mem_filter.1 hr).1
  unfold okCf
  rw [okLn_mk (by omega), hp]
  rfl

theorem k23 (p : List (List Cell)) (n : Int) (h : okCf p = true) : runF E (callOf L13) 1 23 [.one (.sl false 53 p), .one (.int .i64 n)] [] =
    some ([.agg [.sl false 53 (gPart (gPart p n) (n % 1099511627776 / 64)), .sl false 53 (gPart p n)]], []) := by
  have h0 := Int.emod_nonneg n (show (1099511627776 : Int) ≠ 0 by omega)
  have h1 := Int.emod_lt_of_pos n (show (0 : Int) < 1099511627776 by omega)
  have e : IntKind.wrap .i64 (Int.tdiv (gIndex n 1099511627776) 64) = n % 1099511627776 / 64 := by
    unfold gIndex
    rw [if_neg (by omega), Int.tdiv_eq_ediv_of_nonneg h0, wrap64 (by omega) (by omega)]
  rw [e23, h, gPart_cf h, e]
  rfl

theorem okTs_at {l : List (List Cell)} (h : okTs l = true) : l.length ≤ 100 ∧ ∀ (i : Nat), i < l.length → shortRows (nl (Abs.rowAt l i) 0) = true ∧ shortRows (nl (Abs.rowAt l i) 1) = true := by
  unfold okTs at h
  simp only [Bool.and_eq_true, decide_eq_true_eq] at h
  refine ⟨h.1, fun i hi => ?_⟩
  have := List.all_eq_true.1 h.2 _ (rowAt_mem hi)
  simpa [Bool.and_eq_true] using this

theorem okCs_app {a b : List (List Cell)} (ha : okCs a = true) (hb : b.all (fun x => okRows (nl x 0)) = true) (hl : a.length + b.length ≤ 1000) : okCs (a ++ b) = true := by
  unfold okCs at ha ⊢
  simp only [Bool.and_eq_true, decide_eq_true_eq] at ha ⊢
  rw [List.all_append, ha.2, hb, List.length_append]
  exact ⟨hl, rfl⟩

theorem flatT_cons (x : List Cell) (l : List (List Cell)) : flatT (x :: l) = [[Cell.slice 53 (nl x 0)], [Cell.slice 53 (nl x 1)]] ++ flatT l := rfl

theorem l12 (l : List (List Cell)) (ho : okTs l = true) : ∀ (d i : Nat) (acc : List (List Cell)), i + d = l.length → acc.length ≤ 2 * i → okCs acc = true →
    ∃ m, goF E (callOf L23) F12 0 m P12_0 (M12_0 l acc i) = some ([.one (.bool ((l.drop i).all okT1 && validCs (acc ++ flatT (l.drop i))))], [])
  | 0, i, acc, hi, ha, hc => by
    refine ⟨1, ?_⟩
    have : l.drop i = [] := List.drop_eq_nil_of_le (by omega)
    have e : flatT [] = [] := rfl
    rw [e12_0, this, e, List.append_nil]
    exact cf (decide_eq_false (by omega)) (ct hc rfl)
  | d + 1, i, acc, hi, ha, hc => by
    have hi' : i < l.length := by omega
    have hib := inB_nat' hi'
    obtain ⟨h1, h2⟩ := okTs_at ho
    obtain ⟨s0, s1⟩ := h2 i hi'
    have hd := drop_cons l i hi'
    have e1 : okT1 (Abs.rowAt l i) = (!(decide (30 < (nl (Abs.rowAt l i) 0).length) || (decide (30 < (nl (Abs.rowAt l i) 1).length) || decide (vCert (nl (Abs.rowAt l i) 0) (nl (Abs.rowAt l i) 1) ≠ 0)))) := rfl
    by_cases g0 : 30 < (nl (Abs.rowAt l i) 0).length
    · refine ⟨1, ?_⟩
      rw [e12_0, Int.toNat_natCast, hd, List.all_cons, e1, decide_eq_true g0]
      exact ct (decide_eq_true (by omega)) (ct hib (ct (decide_eq_true (by omega)) rfl))
    · by_cases g1 : 30 < (nl (Abs.rowAt l i) 1).length
      · refine ⟨1, ?_⟩
        rw [e12_0, Int.toNat_natCast, hd, List.all_cons, e1, decide_eq_false g0, decide_eq_true g1]
        exact ct (decide_eq_true (by omega)) (ct hib (cf (decide_eq_false (by omega)) (ct hib (ct (decide_eq_true (by omega)) rfl))))
      · have r0 := okRows_mk (c := nl (Abs.rowAt l i) 0) (by omega) s0
        have r1 := okRows_mk (c := nl (Abs.rowAt l i) 1) (by omega) s1
        by_cases g2 : vCert (nl (Abs.rowAt l i) 0) (nl (Abs.rowAt l i) 1) = 0
        · obtain ⟨m, hm⟩ := l12 l ho d (i + 1) (acc ++ [[Cell.slice 53 (nl (Abs.rowAt l i) 0)], [Cell.slice 53 (nl (Abs.rowAt l i) 1)]]) (by omega) (by simp; omega) (okCs_app hc (by
            show (okRows (nl (Abs.rowAt l i) 0) && (okRows (nl (Abs.rowAt l i) 1) && true)) = true
            rw [r0, r1]
            rfl) (by simp; omega))
          refine ⟨m + 1, ?_⟩
          have gf : decide (vCert (nl (Abs.rowAt l i) 0) (nl (Abs.rowAt l i) 1) ≠ 0) = false := decide_eq_false (by simpa using g2)
          rw [e12_0, Int.toNat_natCast, hd, List.all_cons, e1, decide_eq_false g0, decide_eq_false g1, gf, nat_wrap (n := l.length) hi' (by omega), hm, flatT_cons, List.append_assoc]
          exact ct (decide_eq_true (by omega)) (ct hib (cf (decide_eq_false (by omega)) (ct hib (cf (decide_eq_false (by omega)) (ct hib (ct (by rw [r0, r1]; rfl) (cf (by simpa using g2) (ct hib (ct hib (ct (fits_of (by simp; omega)) rfl))))))))))
        · refine ⟨1, ?_⟩
          rw [e12_0, Int.toNat_natCast, hd, List.all_cons, e1, decide_eq_false g0, decide_eq_false g1, decide_eq_true g2]
          exact ct (decide_eq_true (by omega)) (ct hib (cf (decide_eq_false (by omega)) (ct hib (cf (decide_eq_false (by omega)) (ct hib (ct (by rw [r0, r1]; rfl) (ct (by simpa using g2) rfl)))))))

theorem k12 (l : List (List Cell)) (h : okTs l = true) : ∃ m, runF E (callOf L23) m 12 [.one (.sl false 25 l)] [] = some ([.one (.bool (validTs l))], []) := by
  obtain ⟨m, hm⟩ := l12 l h l.length 0 [] (by omega) (by simp) rfl
  exact ⟨m + 1, by rw [e12]; exact hm⟩

/- THE LAWS -/

theorem cert_of {f t : List (List Cell)} (h : vCert f t = 0) : vCfg f = 0 ∧ vCfg t = 0 := by
  unfold vCert at h
  split at h
  · exact absurd h (by assumption)
  · rename_i h1
    split at h
    · exact absurd h (by assumption)
    · rename_i h2
      exact ⟨by simpa using h1, by simpa using h2⟩

theorem eqChR_symm {r q : List Cell} (h : eqChR r q = true) : eqChR q r = true := by
  unfold eqChR eqCh at h ⊢
  simp only [Bool.and_eq_true, beq_iff_eq] at h ⊢
  omega

theorem eqChs_symm : ∀ {c d : List (List Cell)}, c.length = d.length → eqChs c d = true → eqChs d c = true
  | [], [], _, _ => rfl
  | [], _ :: _, h, _ => by simp at h
  | _ :: _, [], h, _ => by simp at h
  | r :: c, q :: d, hl, h => by
    rw [eqChs, Bool.and_eq_true] at h ⊢
    exact ⟨eqChR_symm h.1, eqChs_symm (c := c) (d := d) (by simpa using hl) h.2⟩

theorem eqPR_symm {r q : List Cell} (h : eqPR r q = true) : eqPR q r = true := by
  unfold eqPR eqP at h ⊢
  simp only [Bool.and_eq_true, beq_iff_eq, decide_eq_true_eq] at h ⊢
  obtain ⟨⟨⟨h1, h2⟩, h3⟩, h4⟩ := h
  exact ⟨⟨⟨h1.symm, h2.symm⟩, h3.symm⟩, eqChs_symm h3 h4⟩

theorem eqPR_key {r q : List Cell} (h : eqPR r q = true) : nr r 0 = nr q 0 ∧ nr r 1 = nr q 1 := by
  unfold eqPR eqP at h
  simp only [Bool.and_eq_true, beq_iff_eq, decide_eq_true_eq] at h
  exact ⟨h.1.1.1, h.1.1.2⟩

/-- sets that agree hold the same exactly if they are equal in all fields -/
theorem same_eq : ∀ {c d : List (List Cell)}, Asc c → Asc d → (∀ r ∈ d, ∀ q ∈ c, kEq r q = true → eqPR r q = true) → ((contK c d && contK d c) = true ↔ eqCfg c d = true)
  | [], [], _, _, _ => by simp [contK, eqCfg, eqCfgF]
  | [], q :: d, _, _, _ => by simp [contK, eqCfg, hasK_nil]
  | r :: c, [], _, _, _ => by simp [contK, eqCfg, hasK_nil]
  | r :: c, q :: d, hc, hd, ha => by
    have hc' := asc_cons.1 hc
    have hd' := asc_cons.1 hd
    have ih := same_eq hc'.2 hd'.2 fun x hx y hy => ha x (List.mem_cons_of_mem _ hx) y (List.mem_cons_of_mem _ hy)
    have estep : eqCfg (r :: c) (q :: d) = (eqPR r q && eqCfg c d) := by
      unfold eqCfg
      rw [eqCfgF]
      show (decide ((r :: c).length = (q :: d).length) && (eqPR r q && eqCfgF c d)) = _
      have : decide ((r :: c).length = (q :: d).length) = decide (c.length = d.length) := by simp
      rw [this]
      cases decide (c.length = d.length) <;> cases eqPR r q <;> cases eqCfgF c d <;> rfl
    rw [estep]
    simp only [Bool.and_eq_true]
    constructor
    · rintro ⟨h1, h2⟩
      have h1 := List.all_eq_true.1 h1
      have h2 := List.all_eq_true.1 h2
      -- the heads have one key
      obtain ⟨y, hy, y0, y1⟩ := hasK_iff.1 (h1 q List.mem_cons_self)
      obtain ⟨x, hx, x0, x1⟩ := hasK_iff.1 (h2 r List.mem_cons_self)
      have hk : nr r 0 = nr q 0 ∧ nr r 1 = nr q 1 := by
        rcases List.mem_cons.1 hy with rfl | hy
        · exact ⟨y0, y1⟩
        · rcases List.mem_cons.1 hx with rfl | hx
          · exact ⟨x0.symm, x1.symm⟩
          · have := kLt_iff.1 (hc'.1 y hy)
            have := kLt_iff.1 (hd'.1 x hx)
            omega
      refine ⟨eqPR_symm (ha q List.mem_cons_self r List.mem_cons_self (kEq_iff.2 ⟨hk.1.symm, hk.2.symm⟩)), ih.1 ?_⟩
      rw [Bool.and_eq_true]
      refine ⟨List.all_eq_true.2 fun z hz => ?_, List.all_eq_true.2 fun z hz => ?_⟩
      · obtain ⟨y, hy, y0, y1⟩ := hasK_iff.1 (h1 z (List.mem_cons_of_mem _ hz))
        rcases List.mem_cons.1 hy with rfl | hy
        · have := kLt_iff.1 (hd'.1 z hz)
          omega
        · exact hasK_iff.2 ⟨y, hy, y0, y1⟩
      · obtain ⟨y, hy, y0, y1⟩ := hasK_iff.1 (h2 z (List.mem_cons_of_mem _ hz))
        rcases List.mem_cons.1 hy with rfl | hy
        · have := kLt_iff.1 (hc'.1 z hz)
          omega
        · exact hasK_iff.2 ⟨y, hy, y0, y1⟩
    · rintro ⟨h1, h2⟩
      have hk := eqPR_key h1
      have h3 := ih.2 h2
      rw [Bool.and_eq_true] at h3
      refine ⟨List.all_eq_true.2 fun z hz => ?_, List.all_eq_true.2 fun z hz => ?_⟩
      · rcases List.mem_cons.1 hz with rfl | hz
        · exact hasK_iff.2 ⟨r, List.mem_cons_self, hk.1, hk.2⟩
        · obtain ⟨y, hy, e⟩ := hasK_iff.1 (List.all_eq_true.1 h3.1 z hz)
          exact hasK_iff.2 ⟨y, List.mem_cons_of_mem _ hy, e⟩
      · rcases List.mem_cons.1 hz with rfl | hz
        · exact hasK_iff.2 ⟨q, List.mem_cons_self, hk.1.symm, hk.2.symm⟩
        · obtain ⟨y, hy, e⟩ := hasK_iff.1 (List.all_eq_true.1 h3.2 z hz)
          exact hasK_iff.2 ⟨y, List.mem_cons_of_mem _ hy, e⟩

theorem agr_of {c d : List (List Cell)} (h : agrC d c = true) : ∀ r ∈ d, ∀ q ∈ c, kEq r q = true → eqPR r q = true := fun r hr q hq hk => by
  have := List.all_eq_true.1 (List.all_eq_true.1 h r hr) q hq
  rw [hk] at this
  simpa using this

theorem law4 (f1 t1 f2 t2 : List (List Cell)) (h : ((okArg f1 && okArg t1) && (okArg f2 && okArg t2)) = true) : ∃ m, runF E (callOf L12) m 4 [.agg [.sl false 53 f1, .sl false 53 t1], .agg [.sl false 53 f2, .sl false 53 t2]] [] = some ([.one (.bool true)], []) := by
  simp only [Bool.and_eq_true] at h
  obtain ⟨⟨h1, h2⟩, h3, h4⟩ := h
  obtain ⟨p1, s1⟩ := okArg_of h1
  obtain ⟨p2, s2⟩ := okArg_of h2
  obtain ⟨p3, s3⟩ := okArg_of h3
  obtain ⟨p4, s4⟩ := okArg_of h4
  refine ⟨3, ?_⟩
  rw [e4]
  have hts : okTs [[Cell.slice 53 f1, Cell.slice 53 t1], [Cell.slice 53 f2, Cell.slice 53 t2]] = true := by
    unfold okTs
    show (_ && ((shortRows f1 && shortRows t1) && ((shortRows f2 && shortRows t2) && true))) = true
    rw [s1, s2, s3, s4]
    rfl
  refine ct hts (cs (fun _ => rfl) (fun g => ?_))
  have hval : validTs [[Cell.slice 53 f1, Cell.slice 53 t1], [Cell.slice 53 f2, Cell.slice 53 t2]] = true := by simpa using g
  unfold validTs at hval
  rw [Bool.and_eq_true] at hval
  obtain ⟨v1, v2⟩ := hval
  have v1 : (okT1 [Cell.slice 53 f1, Cell.slice 53 t1] && (okT1 [Cell.slice 53 f2, Cell.slice 53 t2] && true)) = true := v1
  simp only [Bool.and_eq_true] at v1
  have c1 : vCert f1 t1 = 0 := by
    have := v1.1
    unfold okT1 at this
    have : (!(decide (30 < f1.length) || (decide (30 < t1.length) || decide (vCert f1 t1 ≠ 0)))) = true := this
    simp only [Bool.not_eq_true', Bool.or_eq_false_iff, decide_eq_false_iff_not] at this
    exact Classical.byContradiction this.2.2
  have c2 : vCert f2 t2 = 0 := by
    have := v1.2.1
    unfold okT1 at this
    have : (!(decide (30 < f2.length) || (decide (30 < t2.length) || decide (vCert f2 t2 ≠ 0)))) = true := this
    simp only [Bool.not_eq_true', Bool.or_eq_false_iff, decide_eq_false_iff_not] at this
    exact Classical.byContradiction this.2.2
  have v2 : validF [] [[Cell.slice 53 f1], [Cell.slice 53 t1], [Cell.slice 53 f2], [Cell.slice 53 t2]] = true := v2
  have hagr : agrC f2 f1 = true ∧ agrC t2 t1 = true := by
    unfold validF validF validF validF at v2
    simp only [Bool.and_eq_true] at v2
    obtain ⟨_, _, _, _, _, w1, _, w2, _⟩ := v2
    have w1 : (agrC f2 f1 && (agrC f2 t1 && true)) = true := w1
    have w2 : (agrC t2 f1 && (agrC t2 t1 && (agrC t2 f2 && true))) = true := w2
    simp only [Bool.and_eq_true] at w1 w2
    exact ⟨w1.1, w2.2.1⟩
  obtain ⟨a1, a2⟩ := cert_of c1
  obtain ⟨a3, a4⟩ := cert_of c2
  have F1 := fit_mk a1 p1
  have F2 := fit_mk a2 p2
  have F3 := fit_mk a3 p3
  have F4' := fit_mk a4 p4
  have q1 : (eqT f1 t1 f2 t2 == (eqCfg f1 f2 && eqCfg t1 t2)) = true := by
    have e1 : (contK f1 f2 && contK f2 f1) = eqCfg f1 f2 := by
      rw [Bool.eq_iff_iff]
      exact same_eq F1.vld.asc F3.vld.asc (agr_of hagr.1)
    have e2 : (contK t1 t2 && contK t2 t1) = eqCfg t1 t2 := by
      rw [Bool.eq_iff_iff]
      exact same_eq F2.vld.asc F4'.vld.asc (agr_of hagr.2)
    unfold eqT
    rw [e1, e2, beq_self_eq_true]
  have nb : ∀ t x : List (List Cell), newB t x = newR t x := fun t x => by
    unfold newB newR
    cases contK t x <;> cases contK x t <;> rfl
  have q2 : ∀ a b : List (List Cell), latest t1 t2 a b = latestR t1 t2 a b := fun a b => by
    unfold latest latestR
    rw [nb]
  have hrl : ∀ a b : List (List Cell), okRows a = true → okRows b = true → okRows (latestR t1 t2 a b) = true := fun a b ha hb => by
    unfold latestR
    split <;> assumption
  have hrs : okRows (startT f1 t1 t2) = true := by
    unfold startT
    split
    · exact F4'.rows
    · exact F1.rows
  rw [e4_0, q1, nb, q2, q2, F1.srt, F2.srt, F3.srt, F4'.srt, F1.rows, F2.rows, F1.ln, F2.ln, F4'.ln, F1.cl, F2.cl, F3.cl, F4'.cl, hrl _ _ F1.rows F3.rows, hrl _ _ F2.rows F4'.rows, eqCfg_refl, eqCfg_refl, hrs, eqCfg_refl, beq_self_eq_true, e4_1]
  rfl

theorem newB_false {t x : List (List Cell)} (h : contK x t = true) : newB t x = false := by
  unfold newB
  rw [h]
  cases contK t x <;> rfl

theorem law5 (l : List (List Cell)) (x y z : Int) (hl : l.length < 4611686018427387904) : runF E (callOf L4) 1 5 [.one (.sl false 3 l), .one (.int .i64 x), .one (.int .i64 y), .one (.int .i64 z)] [] = some ([.one (.bool true)], []) := by
  have F := pool_fit l
  have A : ∀ n, gPart (gPool l) n = sub (gPool l) (cntV (partV n)) := fun n => rfl
  have A2 : ∀ f n, gPart (sub (gPool l) f) n = sub (gPool l) fun a => min (f a) (cntV (partV n) a) := fun f n => sub_sub _ _ _
  rw [e5]
  simp only [A, A2]
  generalize (fun a => min (cntV (partV x) a) (cntV (partV (x % 1099511627776 / 64)) a)) = f'
  generalize (fun a => min (cntV (partV y) a) (cntV (partV (y % 1099511627776 / 64)) a)) = g'
  generalize gPool l = P at *
  generalize cntV (partV x) = f
  generalize cntV (partV y) = g
  generalize cntV (partV z) = h
  have V := F.vld
  have hCl : ∀ f, okCl (sub P f) = true := fun f => (F.sub f).cl
  have hSrt : ∀ f, okSrt (sub P f) = true := fun f => (F.sub f).srt
  have C := cont_sub V
  have rf : ∀ f, contK (sub P f) (sub P f) = true := fun f => (C f f).2 fun _ _ h => h
  have tr : ∀ f g h, contK (sub P f) (sub P g) = true → contK (sub P g) (sub P h) = true → contK (sub P f) (sub P h) = true := fun f g h h1 h2 => (C f h).2 fun r hr hh => (C f g).1 h1 r hr ((C g h).1 h2 r hr hh)
  have nr : ∀ f, newB (sub P f) (sub P f) = false := fun f => newB_false (rf f)
  have lat : ∀ f a b, latest (sub P f) (sub P f) a b = a := fun f a b => by
    unfold latest
    rw [nr f]
    rfl
  have eqt : ∀ f g, eqT (sub P f) (sub P g) (sub P f) (sub P g) = true := fun f g => by
    unfold eqT
    rw [rf, rf]
    rfl
  have hlat : latest (sub P f) (sub P g) (sub P f) (sub P g) = sub P f ∨ latest (sub P f) (sub P g) (sub P f) (sub P g) = sub P g := by
    unfold latest
    split
    · exact .inr rfl
    · exact .inl rfl
  have hls : okSrt (latest (sub P f) (sub P g) (sub P f) (sub P g)) = true := by
    rcases hlat with e | e <;> rw [e] <;> exact hSrt _
  have hn1 : newB (sub P f) (latest (sub P f) (sub P g) (sub P f) (sub P g)) = false := by
    unfold latest
    cases hb : newB (sub P g) (sub P f) with
    | true =>
      rw [if_pos rfl]
      refine newB_false ?_
      unfold newB at hb
      simp only [Bool.and_eq_true] at hb
      exact hb.1
    | false => rw [if_neg (by simp)]; exact nr f
  have hn2 : (newB (sub P g) (sub P f) == newB (latest (sub P f) (sub P g) (sub P f) (sub P g)) (sub P f)) = true := by
    rw [beq_iff_eq]
    unfold latest
    cases hb : newB (sub P g) (sub P f) with
    | true => rw [if_pos rfl, hb]
    | false => rw [if_neg (by simp), nr f]
  have hno : newB (sub P f) (sub P g) = true → newB (sub P g) (sub P f) = false := fun h1 => by
    refine newB_false ?_
    unfold newB at h1
    simp only [Bool.and_eq_true] at h1
    exact h1.1
  have htr : newB (sub P f) (sub P g) = true → newB (sub P g) (sub P h) = true → newB (sub P f) (sub P h) = true := fun h1 h2 => by
    unfold newB at h1 h2 ⊢
    simp only [Bool.and_eq_true, Bool.not_eq_true', Bool.and_eq_false_iff] at h1 h2 ⊢
    refine ⟨tr _ _ _ h1.1 h2.1, .inr (Bool.eq_false_iff.2 fun h3 => ?_)⟩
    have h4 := tr _ _ _ h3 h1.1
    rcases h2.2 with h5 | h5
    · rw [h2.1] at h5; cases h5
    · rw [h4] at h5; cases h5
  refine ct (decide_eq_true hl) ?_
  simp only [hCl, hSrt, F.cf, nr, lat, eqt, hls, hn1, hn2, Bool.and_self, cond_true, cond_false, Bool.not_false]
  cases b1 : newB (sub P f) (sub P g) with
  | false => rfl
  | true =>
    rw [hno b1]
    cases b2 : newB (sub P g) (sub P h) with
    | false => rfl
    | true => rw [htr b1 b2]; rfl

theorem latest_up {P : List (List Cell)} (V : Vld P) {f g : Int → Int} (h : contK (sub P g) (sub P f) = true) : latest (sub P f) (sub P g) (sub P f) (sub P g) = sub P g := by
  unfold latest
  split
  · rfl
  · rename_i hb
    have hb : newB (sub P g) (sub P f) = false := by simpa using hb
    unfold newB at hb
    rw [h] at hb
    have h2 : contK (sub P f) (sub P g) = true := by
      cases hc : contK (sub P f) (sub P g) with
      | true => rfl
      | false => rw [hc] at hb; cases hb
    rw [cont_sub V] at h h2
    exact sub_congr fun x hx => ⟨h x hx, h2 x hx⟩

theorem latest_down {t x : List (List Cell)} (h : contK t x = true) (a b : List (List Cell)) : latest t x a b = a := by
  unfold latest
  rw [newB_false h]
  rfl

theorem okCl_latest {t x a b : List (List Cell)} (ha : okCl a = true) (hb : okCl b = true) : okCl (latest t x a b) = true := by
  unfold latest
  split <;> assumption

theorem law6 (l : List (List Cell)) (x y z : Int) (hl : l.length < 4611686018427387904) : runF E (callOf L5) 1 6 [.one (.sl false 3 l), .one (.int .i64 x), .one (.int .i64 y), .one (.int .i64 z)] [] = some ([.one (.bool true)], []) := by
  have F := pool_fit l
  have A : ∀ n, gPart (gPool l) n = sub (gPool l) (cntV (partV n)) := fun n => rfl
  have A2 : ∀ f n, gPart (sub (gPool l) f) n = sub (gPool l) fun a => min (f a) (cntV (partV n) a) := fun f n => sub_sub _ _ _
  rw [e6]
  simp only [A, A2]
  generalize (fun a => min (cntV (partV x) a) (cntV (partV (x % 1099511627776 / 64)) a)) = f'
  obtain ⟨h, hh⟩ : ∃ h : Int → Int, h = fun a => min (min (cntV (partV x) a) (cntV (partV y) a)) (cntV (partV z) a) := ⟨_, rfl⟩
  obtain ⟨g, hg⟩ : ∃ g : Int → Int, g = fun a => min (cntV (partV x) a) (cntV (partV y) a) := ⟨_, rfl⟩
  obtain ⟨f, hf⟩ : ∃ f : Int → Int, f = cntV (partV x) := ⟨_, rfl⟩
  rw [← hh, ← hg, ← hf]
  have fg : ∀ a, g a ≤ f a := fun a => by rw [hg, hf]; dsimp only; omega
  have gh : ∀ a, h a ≤ g a := fun a => by rw [hh, hg]; dsimp only; omega
  clear hh hg hf A A2
  generalize gPool l = P at *
  have V := F.vld
  have hCl : ∀ f, okCl (sub P f) = true := fun f => (F.sub f).cl
  have hSrt : ∀ f, okSrt (sub P f) = true := fun f => (F.sub f).srt
  have hCf : ∀ f, okCf (sub P f) = true := fun f => (F.sub f).cf
  have hRows : ∀ f, okRows (sub P f) = true := fun f => (F.sub f).rows
  have hnil : okCl ([] : List (List Cell)) = true := rfl
  have C := cont_sub V
  have cfg : contK (sub P f) (sub P g) = true := (C f g).2 fun r _ hr => by have := fg (nr r 0); omega
  have cgh : contK (sub P g) (sub P h) = true := (C g h).2 fun r _ hr => by have := gh (nr r 0); omega
  have cfh : contK (sub P f) (sub P h) = true := (C f h).2 fun r _ hr => by have := gh (nr r 0); have := fg (nr r 0); omega
  have hL : ∀ (t x : List (List Cell)) (f : Int → Int), okCl (latest t x [] (sub P f)) = true := fun t x f => okCl_latest hnil (hCl f)
  have hL2 : ∀ (t x : List (List Cell)) (f : Int → Int), okCl (latest t x (sub P f) []) = true := fun t x f => okCl_latest (hCl f) hnil
  have hL3 : ∀ (t x : List (List Cell)), okCl (latest t x [] []) = true := fun t x => okCl_latest hnil hnil
  have u1 := latest_up V cgh
  have u2 := latest_up V cfg
  have u3 := latest_up V cfh
  simp only [u1, u2, u3, latest_down cgh, latest_down cfg, latest_down cfh, hCl, hSrt, hCf, hRows, hnil, hL, hL2, hL3, F.cf, eqCfg_refl, Bool.and_self, cond_true, cond_false, Bool.not_true]
  exact ct (decide_eq_true hl) rfl

theorem law7 (l : List (List Cell)) (x y : Int) (hl : l.length < 4611686018427387904) : runF E (callOf L6) 1 7 [.one (.sl false 3 l), .one (.int .i64 x), .one (.int .i64 y)] [] = some ([.one (.bool true)], []) := by
  have F := pool_fit l
  have A : ∀ n, gPart (gPool l) n = sub (gPool l) (cntV (partV n)) := fun n => rfl
  have A2 : ∀ f n, gPart (sub (gPool l) f) n = sub (gPool l) fun a => min (f a) (cntV (partV n) a) := fun f n => sub_sub _ _ _
  rw [e7]
  simp only [A, A2]
  obtain ⟨f', hf'⟩ : ∃ f' : Int → Int, f' = fun a => min (cntV (partV x) a) (cntV (partV (x % 1099511627776 / 64)) a) := ⟨_, rfl⟩
  rw [← hf']
  have ff : ∀ a, f' a ≤ cntV (partV x) a := fun a => by rw [hf']; dsimp only; omega
  clear hf' A A2
  generalize gPool l = P at *
  generalize cntV (partV x) = f at *
  generalize cntV (partV y) = g
  have V := F.vld
  have hCl : ∀ f, okCl (sub P f) = true := fun f => (F.sub f).cl
  have hSrt : ∀ f, okSrt (sub P f) = true := fun f => (F.sub f).srt
  have hLn : ∀ f, okLn (sub P f) = true := fun f => (F.sub f).ln
  have C := cont_sub V
  have c1 : contK (sub P f) (sub P f') = true := (C f f').2 fun r _ hr => by have := ff (nr r 0); omega
  have rf : ∀ f, contK (sub P f) (sub P f) = true := fun f => (C f f).2 fun _ _ h => h
  have hS : startT (sub P f') (sub P f) (sub P g) = if betw (sub P f') (sub P f) (sub P g) = true then sub P g else sub P f' := rfl
  cases hb : betw (sub P f') (sub P f) (sub P g) with
  | true =>
    rw [hb, if_pos rfl] at hS
    unfold betw at hb
    simp only [Bool.and_eq_true] at hb
    have hr := (F.sub g).rows
    simp only [hS, hCl, hSrt, hLn, hr, hb.1, hb.2, F.cf, eqCfg_refl, Bool.and_self, cond_true, cond_false, Bool.not_true]
    refine ct (decide_eq_true hl) ?_
    cases eqCfg (sub P g) (sub P f') <;> rfl
  | false =>
    rw [hb, if_neg (by simp)] at hS
    unfold betw at hb
    have hr := (F.sub f').rows
    simp only [hS, hCl, hSrt, hLn, hr, c1, rf, F.cf, eqCfg_refl, Bool.and_self, cond_true, cond_false, Bool.not_true]
    refine ct (decide_eq_true hl) ?_
    cases k1 : contK (sub P f) (sub P g) with
    | false => rfl
    | true =>
      rw [k1, Bool.true_and] at hb
      rw [hb]
      rfl

end Go.Proofs.Ytdgijohgncchiaa
