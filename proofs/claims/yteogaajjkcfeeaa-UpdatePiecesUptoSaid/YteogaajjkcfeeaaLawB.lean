/-
  The laws of encodings, in plain Lean.
-/
import Derived.Test.YteogaajjkcfeeaaPool
import Derived.Test.YteogaajjkcfeeaaLawA
namespace Go.Proofs.Yteogaajjkcfeeaa
open Go.Abs

def reEff (r : List Cell) : List Cell := [.int .i64 (nr r 0), .str (ns r 1), .str (ns r 2), .int .i64 (nr r 3), .str (ns r 4)]

theorem vEffR_re (r : List Cell) : vEffR (reEff r) = vEffR r := rfl

theorem vEffs_re : ∀ (l : List (List Cell)), vEffs (l.map reEff) = vEffs l
  | [] => rfl
  | r :: l => by rw [List.map_cons, vEffs, vEffs, vEffR_re, vEffs_re l]

theorem comm_re (l : List (List Cell)) : comm (l.map reEff) = comm l := by
  unfold comm
  rw [List.all_map]
  rfl

theorem vUpd_re (c q t : Int) (l : List (List Cell)) : vUpd c q t (l.map reEff) = vUpd c q t l := by
  unfold vUpd
  rw [List.length_map, vEffs_re, comm_re]

theorem eqEffF_re : ∀ (l : List (List Cell)), eqEffF l (l.map reEff) = true
  | [] => rfl
  | r :: l => by
    rw [List.map_cons, eqEffF]
    show (eqEffR r (reEff r) && eqEffF l (l.map reEff)) = true
    rw [eqEffF_re l, Bool.and_true]
    simp [eqEffR, reEff, nr, ns, cellAt, Cell.toInt, Cell.toStr]

theorem eqEffF_re2 : ∀ (l : List (List Cell)), eqEffF (l.map reEff) l = true
  | [] => rfl
  | r :: l => by
    rw [List.map_cons, eqEffF]
    show (eqEffR (reEff r) r && eqEffF (l.map reEff) l) = true
    rw [eqEffF_re2 l, Bool.and_true]
    simp [eqEffR, reEff, nr, ns, cellAt, Cell.toInt, Cell.toStr]

theorem eqU_re (a n t : Int) (c : List (List Cell)) : eqU a n t c a n t (c.map reEff) = true := by
  simp [eqU, eqEffs, eqEffF_re]
theorem eqU_re2 (a n t : Int) (c : List (List Cell)) : eqU a n t (c.map reEff) a n t c = true := by
  simp [eqU, eqEffs, eqEffF_re2]

/-- an effect that survives -/
def goodE (r : List Cell) : Prop := vEffR r = 0 ∧ okI (nr r 3) = true

theorem goodE_facts {r : List Cell} (h : goodE r) : 1 ≤ nr r 0 ∧ nr r 0 ≤ 5 ∧ (ns r 1).length ≤ 16 ∧ (ns r 2).length ≤ 16 ∧ (ns r 4).length ≤ 32 := by
  have := vEff_cases (nr r 0) (ns r 1) (ns r 2) (nr r 3) (ns r 4)
  have h1 : vEff (nr r 0) (ns r 1) (ns r 2) (nr r 3) (ns r 4) = 0 := h.1
  omega

theorem goodE_short {r : List Cell} (h : goodE r) : shortR r = true := by
  have := goodE_facts h
  unfold shortR
  simp only [Bool.and_eq_true, decide_eq_true_eq]
  exact ⟨by omega, by omega, by omega, h.2⟩

theorem vEffs_mem : ∀ {l : List (List Cell)}, vEffs l = 0 → ∀ r ∈ l, vEffR r = 0
  | [], _, r, hr => by cases hr
  | q :: l, h, r, hr => by
    rw [vEffs] at h
    by_cases h0 : vEffR q = 0
    · rw [if_neg (by simpa using h0)] at h
      rcases List.mem_cons.1 hr with rfl | hr
      · exact h0
      · exact vEffs_mem h r hr
    · rw [if_pos h0] at h
      exact absurd h h0

theorem vUpd_ok {c q t : Int} {l : List (List Cell)} (h : vUpd c q t l = 0) : 101 ≤ c ∧ c < 107 ∧ 1 ≤ q ∧ q ≤ 8 ∧ 0 ≤ t ∧ t ≤ 1000 ∧ 1 ≤ l.length ∧ l.length ≤ 4 ∧ vEffs l = 0 := by
  unfold vUpd at h
  split at h
  · simp at h
  · split at h
    · simp at h
    · split at h
      · simp at h
      · split at h
        · rename_i h1; exact absurd h h1
        · omega

theorem drop_at (A B : List (List Cell)) (n : Int) (h : n = A.length) : (A ++ B).drop n.toNat = B := by
  subst h
  rw [Int.toNat_natCast, List.drop_left]

/-- an effect is read back, whatever follows -/
theorem deff_enc {r : List Cell} (h : goodE r) (rest : List (List Cell)) : deff (effEnc r ++ rest) = ((nr r 0, ns r 1, ns r 2, nr r 3, ns r 4), ((effEnc r).length : Int), 0) := by
  obtain ⟨h0, h1, h2, h3, h4⟩ := goodE_facts h
  have hx : effEnc r ++ rest = uenc (IntKind.wrap .u64 (nr r 0)) ++ (senc (ns r 1) ++ (senc (ns r 2) ++ (uenc (zig (nr r 3)) ++ (senc (ns r 4) ++ rest)))) := by
    unfold effEnc
    simp only [List.append_assoc]
  have hlen : (effEnc r).length = (uenc (IntKind.wrap .u64 (nr r 0))).length + (senc (ns r 1)).length + (senc (ns r 2)).length + (uenc (zig (nr r 3))).length + (senc (ns r 4)).length := by
    unfold effEnc
    simp only [List.length_append]
    omega
  rw [hx, hlen]
  have p1 := rnum2_enc (v := nr r 0) (by omega) (by omega) (senc (ns r 1) ++ (senc (ns r 2) ++ (uenc (zig (nr r 3)) ++ (senc (ns r 4) ++ rest))))
  have p2 := sdec_senc (s := ns r 1) (by omega) (senc (ns r 2) ++ (uenc (zig (nr r 3)) ++ (senc (ns r 4) ++ rest)))
  have p3 := sdec_senc (s := ns r 2) (by omega) (uenc (zig (nr r 3)) ++ (senc (ns r 4) ++ rest))
  have p4 := idec_enc (v := nr r 3) h.2 (senc (ns r 4) ++ rest)
  have p5 := sdec_senc (s := ns r 4) (by omega) rest
  generalize uenc (IntKind.wrap .u64 (nr r 0)) = A at *
  generalize senc (ns r 1) = B at *
  generalize senc (ns r 2) = C at *
  generalize uenc (zig (nr r 3)) = D at *
  generalize senc (ns r 4) = F at *
  unfold deff
  simp only
  rw [p1]
  simp only
  rw [drop_at A _ _ rfl, p2]
  simp only
  rw [show A ++ (B ++ (C ++ (D ++ (F ++ rest)))) = (A ++ B) ++ (C ++ (D ++ (F ++ rest))) by simp only [List.append_assoc], drop_at (A ++ B) _ _ (by simp only [List.length_append]; omega), p3]
  simp only
  rw [show (A ++ B) ++ (C ++ (D ++ (F ++ rest))) = (A ++ B ++ C) ++ (D ++ (F ++ rest)) by simp only [List.append_assoc], drop_at (A ++ B ++ C) _ _ (by simp only [List.length_append]; omega), p4]
  simp only
  rw [show (A ++ B ++ C) ++ (D ++ (F ++ rest)) = (A ++ B ++ C ++ D) ++ (F ++ rest) by simp only [List.append_assoc], drop_at (A ++ B ++ C ++ D) _ _ (by simp only [List.length_append]; omega), p5]
  simp only
  rw [if_neg (by simp), if_neg (by simp), if_neg (by simp), if_neg (by simp), if_neg (by simp)]
  simp

theorem decEs_enc (rest : List (List Cell)) : ∀ (l pre acc : List (List Cell)), (∀ r ∈ l, goodE r) →
    decEs (pre ++ (effsEnc l ++ rest)) l.length pre.length acc = (acc ++ l.map reEff, ((pre.length + (effsEnc l).length : Nat) : Int), 0)
  | [], pre, acc, _ => by simp [decEs, effsEnc]
  | r :: l, pre, acc, h => by
    have ih := decEs_enc rest l (pre ++ effEnc r) (acc ++ [reEff r]) (fun q hq => h q (List.mem_cons_of_mem _ hq))
    have e : (pre ++ (effsEnc (r :: l) ++ rest)).drop ((pre.length : Nat) : Int).toNat = effEnc r ++ (effsEnc l ++ rest) := by
      rw [Int.toNat_natCast, List.drop_left, effsEnc, List.append_assoc]
    rw [List.length_cons, decEs, e, deff_enc (h r List.mem_cons_self), if_neg (by simp)]
    simp only
    have e2 : pre ++ (effsEnc (r :: l) ++ rest) = (pre ++ effEnc r) ++ (effsEnc l ++ rest) := by
      rw [effsEnc]; simp only [List.append_assoc]
    rw [e2, ← Int.natCast_add, ← List.length_append]
    refine ih.trans ?_
    simp only [List.map_cons, List.append_assoc, List.length_append, effsEnc, List.cons_append, List.nil_append]
    congr 3
    omega

theorem headU_small {c q t : Int} {l : List (List Cell)} (h : vUpd c q t l = 0) : small (headU c q t l.length) := by
  obtain ⟨h1, h2, h3, h4, h5, h6, h7, h8, h9⟩ := vUpd_ok h
  intro r hr
  simp only [headU, List.mem_cons, List.not_mem_nil, or_false] at hr
  rcases hr with rfl | rfl | rfl | rfl <;> simp only [nr, cellAt, Cell.toInt] <;> omega

theorem good_all {c q t : Int} {l : List (List Cell)} (h : vUpd c q t l = 0) (hn : l.all (fun e => okI (nr e 3)) = true) : ∀ r ∈ l, goodE r :=
  fun r hr => ⟨vEffs_mem (vUpd_ok h).2.2.2.2.2.2.2.2 r hr, List.all_eq_true.1 hn r hr⟩

/-- a valid update is read back, whatever follows -/
theorem decU_enc {c q t : Int} {l : List (List Cell)} (h : vUpd c q t l = 0) (hn : l.all (fun e => okI (nr e 3)) = true) (rest : List (List Cell)) :
    decU (encU c q t l ++ rest) = (c, q, t, l.map reEff, ((encU c q t l).length : Int), 0) := by
  obtain ⟨h1, h2, h3, h4, h5, h6, h7, h8, h9⟩ := vUpd_ok h
  have hs := headU_small h
  have hg := good_all h hn
  have e : encU c q t l ++ rest = [] ++ (encL (headU c q t l.length) ++ (effsEnc l ++ rest)) := by
    rw [encU, List.append_assoc, List.nil_append]
  have e3 : rread (encU c q t l ++ rest) 4 = ((headU c q t l.length).map reNum, ((encL (headU c q t l.length)).length : Int), 0) := by
    have := rread_enc (effsEnc l ++ rest) (headU c q t l.length) [] [] hs
    rw [← e] at this
    simpa [rread, headU] using this
  have e4 : decEs (encU c q t l ++ rest) l.length ((encL (headU c q t l.length)).length : Int) [] = (l.map reEff, ((encU c q t l).length : Int), 0) := by
    have := decEs_enc rest l (encL (headU c q t l.length)) [] hg
    have e5 : encL (headU c q t l.length) ++ (effsEnc l ++ rest) = encU c q t l ++ rest := by
      rw [encU, List.append_assoc]
    rw [e5] at this
    rw [this, encU, List.length_append, List.nil_append]
  unfold decU
  rw [e3, if_neg (by simp)]
  have k0 : nr (Abs.rowAt ((headU c q t l.length).map reNum) 0) 0 = c := rfl
  have k1 : nr (Abs.rowAt ((headU c q t l.length).map reNum) 1) 0 = q := rfl
  have k2 : nr (Abs.rowAt ((headU c q t l.length).map reNum) 2) 0 = t := rfl
  have k3 : nr (Abs.rowAt ((headU c q t l.length).map reNum) 3) 0 = (l.length : Int) := rfl
  simp only [k0, k1, k2, k3, Int.toNat_natCast]
  rw [if_neg (by omega), e4]
  unfold finU
  simp only
  rw [if_neg (by simp), vUpd_re, h, if_neg (by simp)]

theorem effsEnc_len : ∀ (l : List (List Cell)), l.all shortR = true → (effsEnc l).length ≤ 400 * l.length
  | [], _ => by simp [effsEnc]
  | r :: l, h => by
    rw [List.all_cons, Bool.and_eq_true] at h
    have := (effEnc_ok h.1 (y := []) (by simp)).2.2.2.2
    have := effsEnc_len l h.2
    simp only [effsEnc, List.length_append, List.length_cons]
    omega

theorem effEnc_okB (r : List Cell) : okB (effEnc r) = true ∨ ¬ okI (nr r 3) = true := by
  by_cases h : okI (nr r 3) = true
  · left
    unfold effEnc
    exact okB_app (uencF_okB 10 _ (wrapu_range _).1) (okB_app (senc_okB _) (okB_app (senc_okB _) (okB_app (uencF_okB 10 _ (zig_range h).1) (senc_okB _))))
  · exact Or.inr h

theorem effsEnc_okB : ∀ (l : List (List Cell)), l.all (fun e => okI (nr e 3)) = true → okB (effsEnc l) = true
  | [], _ => rfl
  | r :: l, h => by
    rw [List.all_cons, Bool.and_eq_true] at h
    exact okB_app ((effEnc_okB r).resolve_right (fun hn => hn h.1)) (effsEnc_okB l h.2)

theorem encU_okB (c q t : Int) {l : List (List Cell)} (h : l.all (fun e => okI (nr e 3)) = true) : okB (encU c q t l) = true := okB_app (encL_okB _) (effsEnc_okB l h)

theorem encU_len (c q t : Int) {l : List (List Cell)} (h : l.all shortR = true) : (encU c q t l).length ≤ 40 + 400 * l.length := by
  have := encL_len (headU c q t l.length)
  have h4 : (headU c q t l.length).length = 4 := rfl
  have := effsEnc_len l h
  unfold encU
  rw [List.length_append]
  omega

theorem good_short {c q t : Int} {l : List (List Cell)} (h : vUpd c q t l = 0) (hn : l.all (fun e => okI (nr e 3)) = true) : l.all shortR = true :=
  List.all_eq_true.2 fun r hr => goodE_short (good_all h hn r hr)

theorem law7 (c q t : Int) (l x : List (List Cell)) (hg : (okB x && l.all (fun e => okI (nr e 3))) = true) : runF E (callOf L28) 1 7 [.agg [.int .i64 c, .int .i64 q, .int .i64 t, .sl false 23 l], .one (.sl false 5 x)] [] = some ([.one (.bool true)], []) := by
  simp only [Bool.and_eq_true] at hg
  obtain ⟨hx, hn⟩ := hg
  rw [e7]
  refine cs (fun _ => rfl) (fun g1 => cs (fun _ => rfl) (fun g2 => ?_))
  have g1' := of_decide_eq_false g1
  have g2' : l.length ≤ 60 := by simpa using g2
  by_cases hv : vUpd c q t l = 0
  · have hs := good_short hv hn
    have hl := encU_len c q t hs
    have hap : okApp [] l = true := by
      unfold okApp
      simp only [Bool.and_eq_true, decide_eq_true_eq]
      exact ⟨by simp, by omega, hs⟩
    have hrd : okRd (encU c q t l ++ x) = true := okRd_mk (okB_app (encU_okB c q t hn) hx) (by simp; omega)
    rw [List.nil_append, decU_enc hv hn]
    exact cf (by simpa using hv) (ct hap (ct (fits_of (by simp; omega)) (ct (fits_of (by omega)) (ct hrd (ct hap (ct (by simp) (ct (by simp) (ct (by simp) (ct (decide_eq_true (by omega)) (ct (eqU_re c q t l) rfl))))))))))
  · exact ct (by simpa using hv) rfl

theorem decU_len (x : List (List Cell)) (hx : okRd x = true) : (decU x).2.2.2.1.length ≤ 4 := by
  unfold decU
  split
  · simp
  · rename_i h0
    split
    · simp
    · rename_i h6
      unfold finU
      split
      · simp
      · rename_i h1
        split
        · simp
        · have hb := rread_bound hx (c := 4) (by simpa using h0)
          have := (decEs_bound x hx _ _ [] hb.1 hb.2.1 (by simpa using h1)).2.2
          simp only [this, List.length_nil]
          omega

theorem law8 (x : List (List Cell)) (hx : okB x = true) : runF E (callOf L7) 1 8 [.one (.sl false 5 x)] [] = some ([.one (.bool true)], []) := by
  rw [e8]
  refine cs (fun _ => rfl) (fun g1 => ?_)
  have g1' := of_decide_eq_false g1
  have hrd := okRd_mk hx (by omega)
  have := decU_len x hrd
  exact ct hrd (ct hrd (ct (decide_eq_true (by omega)) (ct (eqU_refl _ _ _ _) (ct (by simp) (ct (by simp) rfl)))))

end Go.Proofs.Yteogaajjkcfeeaa
