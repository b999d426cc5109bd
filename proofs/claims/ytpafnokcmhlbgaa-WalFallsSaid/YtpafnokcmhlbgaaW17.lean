/-
  The contract of opening a log that may not be opened.
-/
import Derived.Test.YtpafnokcmhlbgaaW14
import Derived.Test.YtpafnokcmhlbgaaEq4
namespace Go.Proofs.Ytpafnokcmhlbgaa
open Go.Abs

theorem oF {un cn : Nat} {d : Dk} {a g : Int} {b : List (List Cell)} {n : Int} {s : List (List Cell) × Int} {st : Dr} {Z' : Bool} {X2 X3 : Option (List AV × List Block)} (h : okDk un cn d = true) (hq : d.q.length ≤ 2000000) (ha : okSeg a = true) (hg : okV g = true) (hb : okB b = true) (hbl : b.length ≤ 65536)
    (hs : s = wScan g b) (hn : n = b.length - s.2) (hst : st = d.store (a * d.half + 32 + s.2) (zeros n)) (h0 : (openT d a g b).e ≠ 0) (hZ : Z' = true) :
    (cond (okV g && okBl b) (cond (inB s.2 (b.length + 1)) (cond (okBl (dropN b (Int.toNat s.2))) (cond (!(zeroB (dropN b (Int.toNat s.2)))) (cond (okDk un cn d && okSeg a) (cond Z' (cond (okMake n n) (cond (okDk un cn d && okWx d (List.replicate (Int.toNat n) [Cell.int .u8 0]))
      (cond (st.e != 0) (some ([.one (.nilp), .one (.int .i64 st.e)], [dV un cn st.d, .arr 5 st.d.dur, .arr 5 st.d.cur])) X2) none) none) none) none) X3) none) none) none) =
      some ([.one (.nilp), .one (.int .i64 (openT d a g b).e)], [dV un cn (openT d a g b).d, .arr 5 (openT d a g b).d.dur, .arr 5 (openT d a g b).d.cur]) := by
  subst hs hn hst hZ
  have hr := wScan_range (g := g) hb
  have hbd := okB_drop hb (wScan g b).2.toNat
  rw [dropN_eq]
  refine ct (and_mk hg (and_mk hb (pd_t (by omega)))) (ct (inB_le (by omega) (by omega)) (ct (and_mk hbd (pd_t (by rw [List.length_drop]; omega))) ?_))
  unfold openT at h0 ⊢
  cases hz : zeroB (b.drop (wScan g b).2.toNat) with
  | true =>
    rw [hz, if_pos rfl] at h0
    exact absurd rfl h0
  | false =>
    rw [hz, if_neg (by simp)] at h0
    rw [if_neg (by simp)]
    refine ct rfl (ct (and_mk h ha) (ct rfl (ct (okMake_mk (by omega) (by omega)) (ct (and_mk h (okWx_mk (okB_rep _) (by rw [List.length_replicate]; omega))) ?_))))
    dsimp only at h0 ⊢
    exact ct (by simpa using h0) rfl

theorem k22F (un cn : Nat) (d : Dk) (h : okDk un cn d = true) (hq : d.q.length ≤ 1000000) (h0 : (openM d).e ≠ 0) : runF E (callOf L50) 1 22 [.one (.ptr 0 0)] (dB un cn d) =
    some ([.one (.nilp), .one (.int .i64 (openM d).e)], dB un cn (openM d).d) := by
  obtain ⟨hu, hc, hd⟩ := okDk_of h
  have hh := half_of hd
  have h1 := hd.le
  have h2 := hd.cd
  have hbc := hd.bc
  rw [e22]
  simp (config := { zeta := false }) only [dk_eta]
  extract_lets z2 z4 z10 z1 z11 z5 z12 z3 z8 z13 z6 z9 z14 z15 z7 z16
  by_cases h3 : d.dur.length < 128
  · have e : openM d = ⟨d, Lg.none, 9⟩ := by unfold openM; rw [if_pos h3]
    rw [e]
    exact ct h (ct (decide_eq_true (by unfold secs; omega)) rfl)
  by_cases h4 : d.down = true
  · have e : openM d = ⟨d, Lg.none, 15⟩ := by unfold openM; rw [if_neg h3, if_pos h4]
    rw [e]
    exact ct h (cf (decide_eq_false (by unfold secs; omega)) (ct h4 rfl))
  · have h4 : d.down = false := by simpa using h4
    have h64 := hh.2.2.2 (by omega)
    have c0 : d.chk (0 * d.half) 32 = 0 := chk_mk h4 (by omega) (by omega) (by omega)
    have c1 : d.chk (1 * d.half) 32 = 0 := chk_mk h4 (by omega) (by omega) (by omega)
    have c2 : d.chk (0 * d.half + 32) (d.half - 32) = 0 := chk_mk h4 (by omega) (by omega) (by omega)
    have c3 : d.chk (1 * d.half + 32) (d.half - 32) = 0 := chk_mk h4 (by omega) (by omega) (by omega)
    have q0 : z11 = subL d.cur (0 * d.half).toNat (0 * d.half + 32).toNat := rd_of c0
    have q1 : z10 = subL d.cur (1 * d.half).toNat (1 * d.half + 32).toNat := rd_of c1
    have q2 : z2 = d.area 0 := by
      have := rd_of c2
      rw [show 0 * d.half + 32 + (d.half - 32) = (0 + 1) * d.half by omega] at this
      exact this
    have q3 : z4 = d.area 1 := by
      have := rd_of c3
      rw [show 1 * d.half + 32 + (d.half - 32) = (1 + 1) * d.half by omega] at this
      exact this
    have g0 : wGen z11 = d.gen 0 := by rw [q0]; rfl
    have g1 : wGen z10 = d.gen 1 := by rw [q1]; rfl
    have b0 : okB z11 = true := by rw [q0]; exact okB_sub hbc _ _
    have b1 : okB z10 = true := by rw [q1]; exact okB_sub hbc _ _
    have b2 : okB z2 = true := by rw [q2, Dk.area]; exact okB_sub hbc _ _
    have b3 : okB z4 = true := by rw [q3, Dk.area]; exact okB_sub hbc _ _
    have n0 : z11.length = 32 := by rw [q0, subL_len (by omega)]; omega
    have n1 : z10.length = 32 := by rw [q1, subL_len (by omega)]; omega
    have n2 : (z2.length : Int) = d.half - 32 := by rw [q2, Dk.area, subL_len (by omega)]; omega
    have n3 : (z4.length : Int) = d.half - 32 := by rw [q3, Dk.area, subL_len (by omega)]; omega
    have r0 := wGen_range b0 n0
    have r1 := wGen_range b1 n1
    have s1 := wScan_range (g := wGen z10) b3
    have s5 := wScan_range (g := wGen z11) b2
    have s8 := wScan_range (g := 1) b2
    have e13 : z13 = z4.length - z1.2 := wrap64 (by show _ ≤ (z4.length : Int) - (wScan (wGen z10) z4).2; omega) (by show (z4.length : Int) - (wScan (wGen z10) z4).2 ≤ _; omega)
    have e15 : z15 = z2.length - z5.2 := wrap64 (by show _ ≤ (z2.length : Int) - (wScan (wGen z11) z2).2; omega) (by show (z2.length : Int) - (wScan (wGen z11) z2).2 ≤ _; omega)
    have e6 : z6 = d.store (1 * d.half + 32 + z1.2) (zeros z13) := by
      have w : IntKind.wrap .i64 (1 * d.half + 32 + z1.2) = 1 * d.half + 32 + z1.2 := wrap64 (by show _ ≤ 1 * d.half + 32 + (wScan (wGen z10) z4).2; omega) (by show 1 * d.half + 32 + (wScan (wGen z10) z4).2 ≤ _; omega)
      rw [← w]; rfl
    have e7 : z7 = d.store (0 * d.half + 32 + z5.2) (zeros z15) := by
      have w : IntKind.wrap .i64 (0 * d.half + 32 + z5.2) = 0 * d.half + 32 + z5.2 := wrap64 (by show _ ≤ 0 * d.half + 32 + (wScan (wGen z11) z2).2; omega) (by show 0 * d.half + 32 + (wScan (wGen z11) z2).2 ≤ _; omega)
      rw [← w]; rfl
    have seg0 : okSeg 0 = true := seg_mk (.inl rfl)
    have seg1 : okSeg 1 = true := seg_mk (.inr rfl)
    have bl : ∀ {b : List (List Cell)}, okB b = true → (b.length : Int) = d.half - 32 → okBl b = true := fun hb hn => and_mk hb (pd_t (by omega))
    refine ct h (cf (decide_eq_false (by unfold secs; omega)) (cf h4 (ct (and_mk h seg0) (ct h (cf (by rw [c0]; rfl) (ct (and_mk b0 (pd_t n0)) (ct (and_mk h seg0) (ct h (ct h (cf (by rw [c2]; rfl) ?_))))))))))
    refine ct (and_mk h seg1) (ct h (cf (by rw [c1]; rfl) (ct (and_mk b1 (pd_t n1)) (ct (and_mk h seg1) (ct h (ct h (cf (by rw [c3]; rfl) ?_)))))))
    have fin1 : d.gen 0 < d.gen 1 → openM d = openT d 1 (d.gen 1) (d.area 1) := fun hg => by
      unfold openM
      rw [if_neg (h3), if_neg (by simp [h4]), if_neg (by omega), if_pos hg]
    have fin0 : ¬ d.gen 0 < d.gen 1 → ¬ (d.gen 0 = 0 ∧ d.gen 1 = 0) → openM d = openT d 0 (d.gen 0) (d.area 0) := fun hg hn => by
      unfold openM
      rw [if_neg (h3), if_neg (by simp [h4]), if_neg hn, if_neg hg]
    have sbz : ∀ (a b c e : Block), (true && (sb1 a && (sb1 b && (sb1 c && (sb1 e && true))))) = true := sbs
    by_cases y0 : d.gen 0 = 0
    · refine ct (by rw [g0, y0]; rfl) ?_
      by_cases y1 : d.gen 1 = 0
      · refine ct (by rw [g1, y1]; rfl) ?_
        have eo : openM d = if zeroB (d.area 0) = true ∧ zeroB (d.area 1) = true then
            if (d.store 0 (wHdr 1)).e = 0 then openT (d.store 0 (wHdr 1)).d 0 1 (d.area 0) else ⟨(d.store 0 (wHdr 1)).d, Lg.none, (d.store 0 (wHdr 1)).e⟩
            else ⟨d, Lg.none, 2⟩ := by
          unfold openM
          rw [if_neg h3, if_neg (by simp [h4]), if_pos ⟨y0, y1⟩]
        have z12e : z12 = d.store 0 (wHdr 1) := by
          show d.store (0 * d.half) (wHdr 1) = _
          rw [Int.zero_mul]
        have hw : okB (wHdr 1) = true := wHdr_okB 1
        have hwl : (wHdr 1).length = 32 := wHdr_len 1
        have hk : Kept d z3 32 := by
          have := store_kept (o := 0) hd hw (by rw [hwl]; omega)
          rw [hwl] at this
          show Kept d z12.d 32
          rw [z12e]; exact this
        have hkh := hk.half
        have hkq := hk.q
        have z3e : z3 = (d.store 0 (wHdr 1)).d := by show z12.d = _; rw [z12e]
        refine ct (bl b2 n2) ?_
        by_cases hz0 : zeroB (d.area 0) = true
        rotate_left
        · rw [eo, if_neg (fun hc => hz0 hc.1)]
          exact ct (by rw [q2]; simpa using hz0) rfl
        refine cf (by rw [q2, hz0]; rfl) (ct (bl b3 n3) ?_)
        by_cases hz1 : zeroB (d.area 1) = true
        rotate_left
        · rw [eo, if_neg (fun hc => hz1 hc.2)]
          exact ct (by rw [q3]; simpa using hz1) rfl
        rw [if_pos ⟨hz0, hz1⟩] at eo
        refine cf (by rw [q3, hz1]; rfl) (ct (and_mk h seg0) (ct (okV_mk (by omega) (by omega)) (ct (and_mk h (okWx_mk hw (by rw [hwl]; omega))) ?_)))
        by_cases he : (d.store 0 (wHdr 1)).e = 0
        rotate_left
        · rw [if_neg he] at eo
          rw [eo, ← z12e]
          exact ct (by rw [z12e]; simpa using he) rfl
        rw [if_pos he] at eo
        refine cf (by rw [z12e, he]; rfl) (cf (decide_eq_false (by omega)) ?_)
        rw [eo] at h0 ⊢
        rw [← z3e, ← q2] at h0 ⊢
        have hn8 : IntKind.wrap .i64 ((z2.length : Int) - (wScan 1 z2).2) = z2.length - (wScan 1 z2).2 := wrap64 (by omega) (by omega)
        have e8 : z8 = z3.store (0 * z3.half + 32 + (wScan 1 z2).2) (zeros (IntKind.wrap .i64 ((z2.length : Int) - (wScan 1 z2).2))) := by
          have w : IntKind.wrap .i64 (0 * z3.half + 32 + (wScan 1 z2).2) = 0 * z3.half + 32 + (wScan 1 z2).2 := wrap64 (by omega) (by omega)
          rw [← w]; rfl
        exact oF (kept_ok h hk) (by omega) seg0 (okV_mk (by omega) (by omega)) b2 (by omega) rfl hn8 e8 h0 (sbz _ _ _ _)
      · refine cf (beq_eq_false_iff_ne.mpr (by rw [g1]; exact y1)) ?_
        have hlt : d.gen 0 < d.gen 1 := by omega
        rw [fin1 hlt] at h0 ⊢
        rw [← g1, ← q3] at h0 ⊢
        refine ct (decide_eq_true (by omega)) ?_
        exact oF h (by omega) seg1 (okV_mk r1.1 r1.2) b3 (by omega) rfl e13 e6 h0 (sbz _ _ _ _)
    · refine cf (beq_eq_false_iff_ne.mpr (by rw [g0]; exact y0)) ?_
      by_cases hlt : d.gen 0 < d.gen 1
      · rw [fin1 hlt] at h0 ⊢
        refine ct (decide_eq_true (by omega)) ?_
        rw [← g1, ← q3] at h0 ⊢
        exact oF h (by omega) seg1 (okV_mk r1.1 r1.2) b3 (by omega) rfl e13 e6 h0 (sbz _ _ _ _)
      · rw [fin0 hlt (fun hc => y0 hc.1)] at h0 ⊢
        refine cf (decide_eq_false (by omega)) ?_
        rw [← g0, ← q2] at h0 ⊢
        exact oF h (by omega) seg0 (okV_mk r0.1 r0.2) b2 (by omega) rfl e15 e7 h0 (sbz _ _ _ _)

theorem same22 (un cn : Nat) (qu : List (List Cell)) (am : Bool) (lf : Int) (dn : Bool) (du cu : List (List Cell)) : runF E (callOf L6) 1 22 [.one (.ptr 0 0)] [.var [.msl 5 1 un, .msl 5 2 cn, .sl true 85 qu, .bool am, .int .i64 lf, .bool dn], .arr 5 du, .arr 5 cu] =
    runF E (callOf L50) 1 22 [.one (.ptr 0 0)] [.var [.msl 5 1 un, .msl 5 2 cn, .sl true 85 qu, .bool am, .int .i64 lf, .bool dn], .arr 5 du, .arr 5 cu] := (e22z 0 un cn qu am lf dn du cu).trans (e22 0 un cn qu am lf dn du cu).symm

theorem k22z (un cn : Nat) (d : Dk) (h : okDk un cn d = true) (hq : d.q.length ≤ 1000000) : runF E (callOf L6) 1 22 [.one (.ptr 0 0)] (dB un cn d) = some (R22 un cn d) := by
  refine (same22 un cn d.q d.arm d.left d.down d.dur d.cur).trans ?_
  by_cases h0 : (openM d).e = 0
  · have e : okO d = true := pd_t h0
    rw [k22 un cn d h hq h0]
    unfold R22 tl22
    rw [e, h0]
    rfl
  · have e : okO d = false := by
      cases hc : okO d with
      | false => rfl
      | true => exact absurd (pd_of hc) h0
    rw [k22F un cn d h hq h0]
    unfold R22 tl22
    rw [e]
    rfl

theorem okM_t {un cn : Nat} {d : Dk} (h : (openM d).e = 0) : okM un cn d = true := by
  have e : okO d = true := pd_t h
  unfold okM R22 tl22
  rw [e]
  rfl
theorem okM_f {un cn : Nat} {d : Dk} (h : (openM d).e ≠ 0) : okM un cn d = false := by
  have e : okO d = false := by
    cases hc : okO d with
    | false => rfl
    | true => exact absurd (pd_of hc) h
  unfold okM R22 tl22
  rw [e]
  rfl
theorem okF_t {un cn : Nat} {d : Dk} (h : (openM d).e ≠ 0) : okF un cn d = true := by
  have e : okO d = false := by
    cases hc : okO d with
    | false => rfl
    | true => exact absurd (pd_of hc) h
  unfold okF R22 tl22
  rw [e]
  rfl
theorem oL_t {d : Dk} (h : (openM d).e = 0) : oL (tl22 d) = (openM d).l := by
  have e : okO d = true := pd_t h
  unfold tl22
  rw [e]
  rfl

/- The law of falls. -/

theorem t9 {d : Dk} {W t20 t22 : List (List Cell)} {t23 : Bool} (hF : Fall d W) (ha : d.arm = false) (hW : cloneR W = W) (hn : recsN W ≤ 341) (hc : sameR W t22 = true ∨ (t23 = false ∧ sameR W t20 = true)) :
    ((cond (okDk 768 768 d && pd (d.q.length ≤ 1000000))
    (cond (okM 768 768 d)
     (cond ((Lr.e (openM d)) != 0)
      (some ([.one (.bool false)], []))
      (cond (okRs (Lg.recs (oL (tl22 d))))
       (cond (pd ((cloneR (Lg.recs (oL (tl22 d)))).length ≤ 9223372036854775807))
        (cond (!(sameR (cloneR (Lg.recs (oL (tl22 d)))) t22))
         (cond t23
          (some ([.one (.bool false)], []))
          (cond (pd ((cloneR (Lg.recs (oL (tl22 d)))).length ≤ 9223372036854775807))
           (cond (!(sameR (cloneR (Lg.recs (oL (tl22 d)))) t20))
            (some ([.one (.bool false)], []))
            (cond (okDk 768 768 (Lr.d (openM d)) && pd ((Dk.q (Lr.d (openM d))).length ≤ 1000000))
             (cond (okM 768 768 (Lr.d (openM d)))
              (cond ((Lr.e (openM (Lr.d (openM d)))) == 0)
               (cond (okRs (Lg.recs (oL (tl22 (Lr.d (openM d))))))
                (cond (pd ((cloneR (Lg.recs (oL (tl22 (Lr.d (openM d)))))).length ≤ 9223372036854775807))
                 (cond (sameR (cloneR (Lg.recs (oL (tl22 (Lr.d (openM d)))))) (cloneR (Lg.recs (oL (tl22 d)))))
                  (cond (okDk 768 768 (Lr.d (openM (Lr.d (openM d)))) && okLg (Lr.d (openM (Lr.d (openM d)))) (oL (tl22 (Lr.d (openM d)))) && okAp (Lr.d (openM (Lr.d (openM d)))) [[Cell.int .u8 1]])
                   (cond ((Lr.e (appM (Lr.d (openM (Lr.d (openM d)))) (oL (tl22 (Lr.d (openM d)))) [[Cell.int .u8 1]])) == 0)
                    (some ([.one (.bool true)], []))
                    (some ([.one (.bool false)], [])))
                   none)
                  (some ([.one (.bool false)], [])))
                 none)
                none)
               (some ([.one (.bool false)], [])))
              (cond (okF 768 768 (Lr.d (openM d)))
               (cond ((Lr.e (openM (Lr.d (openM d)))) == 0)
                (some ([.one (.bool false)], []))
                (some ([.one (.bool false)], [])))
               none))
             none))
           none))
         (cond (okDk 768 768 (Lr.d (openM d)) && pd ((Dk.q (Lr.d (openM d))).length ≤ 1000000))
          (cond (okM 768 768 (Lr.d (openM d)))
           (cond ((Lr.e (openM (Lr.d (openM d)))) == 0)
            (cond (okRs (Lg.recs (oL (tl22 (Lr.d (openM d))))))
             (cond (pd ((cloneR (Lg.recs (oL (tl22 (Lr.d (openM d)))))).length ≤ 9223372036854775807))
              (cond (sameR (cloneR (Lg.recs (oL (tl22 (Lr.d (openM d)))))) (cloneR (Lg.recs (oL (tl22 d)))))
               (cond (okDk 768 768 (Lr.d (openM (Lr.d (openM d)))) && okLg (Lr.d (openM (Lr.d (openM d)))) (oL (tl22 (Lr.d (openM d)))) && okAp (Lr.d (openM (Lr.d (openM d)))) [[Cell.int .u8 1]])
                (cond ((Lr.e (appM (Lr.d (openM (Lr.d (openM d)))) (oL (tl22 (Lr.d (openM d)))) [[Cell.int .u8 1]])) == 0)
                 (some ([.one (.bool true)], []))
                 (some ([.one (.bool false)], [])))
                none)
               (some ([.one (.bool false)], [])))
              none)
             none)
            (some ([.one (.bool false)], [])))
           (cond (okF 768 768 (Lr.d (openM d)))
            (cond ((Lr.e (openM (Lr.d (openM d)))) == 0)
             (some ([.one (.bool false)], []))
             (some ([.one (.bool false)], [])))
            none))
          none))
        none)
       none))
     (cond (okF 768 768 d)
      (cond ((Lr.e (openM d)) != 0)
       (some ([.one (.bool false)], []))
       (some ([.one (.bool false)], [])))
      none))
    none) : Option (List AV × List Block)) = some ([.one (.bool true)], []) := by
  obtain ⟨a1, a2, a3, a4, a5, a6⟩ := fall_open hF ha
  obtain ⟨b1, b2, b3, b4, b5, b6⟩ := fall_open a4 a5
  rw [hW] at a2 b2
  rw [oL_t a1, oL_t b1]
  have rs1 := a3.okRs
  have rs2 := b3.okRs
  have hs := sameR_clone W
  rw [hW] at hs
  have hnn := recsN_nn W
  have hh := half768 b4.len
  have hap := app_fits b3 (x := [[Cell.int .u8 1]]) rfl (by decide) (by
    unfold Lg.free
    rw [hh, b6]
    show ((1 : Nat) : Int) + 10 ≤ 384 - 32 - recsN W
    omega)
  have key : (okDk 768 768 (openM d).d && pd ((openM d).d.q.length ≤ 1000000)) = true := and_mk a4.okDk (pd_t (by rw [a4.up.q]; simp))
  rw [a2, b2] at *
  rw [hW]
  refine ct (and_mk hF.okDk (pd_t (by rw [hF.up.q]; simp))) (ct (okM_t a1) (cf (bne_f a1) (ct rs1 (ct (pd_t (by omega)) ?_))))
  cases h2 : sameR W t22 with
  | true =>
    exact cf rfl (ct key (ct (okM_t b1) (ct (beq_t b1) (ct rs2 (ct (pd_t (by omega)) (ct hs (ct (and_mk (and_mk b4.okDk b3.okLg) (b3.okAp rfl)) (ct (beq_t (by rw [hap.1])) rfl))))))))
  | false =>
    obtain ⟨h3, h4⟩ := hc.resolve_left (by rw [h2]; simp)
    subst h3
    rw [h4]
    exact ct rfl (cf rfl (ct (pd_t (by omega)) (cf rfl (ct key (ct (okM_t b1) (ct (beq_t b1) (ct rs2 (ct (pd_t (by omega)) (ct hs (ct (and_mk (and_mk b4.okDk b3.okLg) (b3.okAp rfl)) (ct (beq_t (by rw [hap.1])) rfl)))))))))))

theorem l9_1 {g W t20 t22 : List (List Cell)} {t23 : Bool} (hW : cloneR W = W) (hn : recsN W ≤ 341) (hc : sameR W t22 = true ∨ (t23 = false ∧ sameR W t20 = true)) :
    ∀ (k i : Nat) (d : Dk), i + k = 5 → Fall d W → d.arm = false → ∃ m, goF E (callOf L22b) F9 0 m P9_1 (M9_1 g t20 t22 t23 i 768 768 d.q d.arm d.left d.down d.dur d.cur) = some ([.one (.bool true)], []) := by
  intro k
  induction k with
  | zero =>
    intro i d hi hF ha
    refine ⟨1, ?_⟩
    rw [e9_1]
    dsimp only
    rw [dk_eta]
    by_cases hl : (i : Int) < g.length
    · exact ct (decide_eq_true hl) (cf (decide_eq_false (by omega)) (t9 hF ha hW hn hc))
    · exact cf (decide_eq_false hl) (t9 hF ha hW hn hc)
  | succ k ih =>
    intro i d hi hF ha
    by_cases hl : (i : Int) < g.length
    rotate_left
    · refine ⟨1, ?_⟩
      rw [e9_1]
      dsimp only
      rw [dk_eta]
      exact cf (decide_eq_false hl) (t9 hF ha hW hn hc)
    have hg := gIndex_of (n := nr (Abs.rowAt g i) 0) (k := 25) (by omega)
    obtain ⟨u, ud⟩ := fail_up hF.up (n := gIndex (nr (Abs.rowAt g i) 0) 25) (by omega)
    have hF5 := hF.of u ud
    obtain ⟨s1, s2⟩ := fall_step hF5
    have hF2 := s2 (nr (Abs.rowAt g i) 1) (nr (Abs.rowAt g i) 2)
    obtain ⟨m, hm⟩ := ih (i + 1) _ (by omega) hF2 rfl
    refine ⟨m + 1, ?_⟩
    rw [e9_1]
    dsimp only
    rw [dk_eta, Int.toNat_natCast, wrap64 (n := (i : Int) + 1) (by omega) (by omega)]
    generalize d.fail (gIndex (nr (Abs.rowAt g i) 0) 25) = z5 at *
    refine ct (decide_eq_true hl) (ct (decide_eq_true (by omega)) (ct (inB_nat' (by omega)) (ct (pd_t (by omega)) (ct (and_mk hF5.okDk (pd_t (by rw [u.q]; simp))) ?_))))
    have hin : inB (i : Int) g.length = true := inB_nat' (by omega)
    by_cases he : (openM z5).e = 0
    · exact ct (okM_t he) (ct hin (ct hin (ct s1 (by exact_mod_cast hm))))
    · exact cf (okM_f he) (ct (okF_t he) (ct hin (ct hin (ct s1 (by exact_mod_cast hm)))))

theorem fin9 {g W0 W1 : List (List Cell)} {k t : Int} {r : Lr} {F : Option (List AV × List Block)} (hok : okDk 768 768 r.d = true) (h : (r.e = 0 ∧ ∀ k t, Fall (r.d.crash k t) W1) ∨ (r.e = 15 ∧ ∀ k t, Fall (r.d.crash k t) W0))
    (c0 : cloneR W0 = W0) (n0 : recsN W0 ≤ 341) (c1 : cloneR W1 = W1) (n1 : recsN W1 ≤ 341) :
    ∃ m, (cond (!(r.e == 0)) (cond (r.e != 15) F (cond (okDk 768 768 r.d) (goF E (callOf L22b) F9 0 m P9_1 (M9_1 g W0 W1 (r.e == 0) 0 768 768 (r.d.crash k t).q (r.d.crash k t).arm (r.d.crash k t).left (r.d.crash k t).down (r.d.crash k t).dur (r.d.crash k t).cur)) none))
      (cond (okDk 768 768 r.d) (goF E (callOf L22b) F9 0 m P9_1 (M9_1 g W0 W1 (r.e == 0) 0 768 768 (r.d.crash k t).q (r.d.crash k t).arm (r.d.crash k t).left (r.d.crash k t).down (r.d.crash k t).dur (r.d.crash k t).cur)) none)) = some ([.one (.bool true)], []) := by
  have s0 := sameR_clone W0
  have s1 := sameR_clone W1
  rw [c0] at s0
  rw [c1] at s1
  rcases h with ⟨he, hf⟩ | ⟨he, hf⟩
  · obtain ⟨m, hm⟩ := l9_1 (g := g) (W := W1) (t20 := W0) (t22 := W1) (t23 := true) c1 n1 (.inl s1) 5 0 _ rfl (hf k t) rfl
    refine ⟨m, ?_⟩
    rw [he]
    exact cf rfl (ct hok hm)
  · obtain ⟨m, hm⟩ := l9_1 (g := g) (W := W0) (t20 := W0) (t22 := W1) (t23 := false) c0 n0 (.inr ⟨rfl, s0⟩) 5 0 _ rfl (hf k t) rfl
    refine ⟨m, ?_⟩
    rw [he]
    exact ct rfl (cf rfl (ct hok hm))

theorem secN24 : secN 24 = 768 := by decide

theorem l9_0 {t g s : List (List Cell)} {p : Bool} {f q o : Int} (ht1 : t.length ≤ 9223372036854775807) (ht : ∀ q ∈ t, okB (nl q 0) = true) (hs : ∀ r ∈ s, okB (nl r 0) = true ∧ 1 ≤ (nl r 0).length ∧ (nl r 0).length ≤ 41 ∧ r = wRow (nl r 0)) (hsl : s.length ≤ 4) :
    ∀ (k i : Nat) (d : Dk) (l : Lg), i + k = s.length → Inv d l → d.dur.length = 768 → l.recs = s.take i → ∃ m, goF E (callOf L22b) F9 0 m P9_0 (M9_0 t p f q o g s i 768 768 d.q d.arm d.left d.down d.dur d.cur l.act l.gen l.recs l.fin l.failed) = some ([.one (.bool true)], []) := by
  intro k
  induction k with
  | zero =>
    intro i d l hi hI hn hr
    have hi' : i = s.length := by omega
    subst hi'
    rw [List.take_length] at hr
    have hsn := recsN_mul (a := s) (k := 51) fun r h => by have := hs r h; omega
    have hfn := hI.live.fin
    rw [hr] at hfn
    have c0 : cloneR l.recs = l.recs := by rw [hr]; exact clone_same fun r h => (hs r h).2.2.2
    have n0 : recsN l.recs ≤ 341 := by rw [hr]; omega
    have hgi := gIndex_of (n := f) (k := 30) (by omega)
    obtain ⟨u, ud⟩ := fail_up hI.live.good.up (n := gIndex f 30) (by omega)
    have hfk := fail_kept hI.live.good.ok (gIndex f 30) (by omega)
    have okf : okDk 768 768 (d.fail (gIndex f 30)) = true := okDk_mk (by rw [ud]; exact hn.symm) (by rw [u.cur, ud]; exact hn.symm) u.ok
    have lgf : okLg (d.fail (gIndex f 30)) l = true := okLg_mk (kept_lg hI.live.lg hfk)
    have hap : ∀ {x : List (List Cell)}, okB x = true → okAp (d.fail (gIndex f 30)) x = true := fun hx => okAp_mk hx (by rw [u.q]; simp)
    have hrp : ∀ {x : List (List Cell)}, okRl x = true → okRp (d.fail (gIndex f 30)) x = true := fun hx => okRp_mk hx (by rw [u.q]; simp)
    have hrs := hI.live.okRs
    have hrl : l.recs.length ≤ 4 := by rw [hr]; exact hsl
    -- one record, appended
    have app : ∀ x : List (List Cell), okB x = true → 1 ≤ x.length → x.length ≤ 41 → okDk 768 768 (appM (d.fail (gIndex f 30)) l x).d = true ∧
        (((appM (d.fail (gIndex f 30)) l x).e = 0 ∧ ∀ k t, Fall ((appM (d.fail (gIndex f 30)) l x).d.crash k t) (l.recs ++ [wRow x])) ∨ ((appM (d.fail (gIndex f 30)) l x).e = 15 ∧ ∀ k t, Fall ((appM (d.fail (gIndex f 30)) l x).d.crash k t) l.recs)) ∧
        cloneR (l.recs ++ [wRow x]) = l.recs ++ [wRow x] ∧ recsN (l.recs ++ [wRow x]) ≤ 341 := fun x hx h1 h2 => by
      have hE : recE x = 0 := by
        unfold recE
        rw [if_neg (by omega), if_neg (by omega)]
      obtain ⟨a1, a2⟩ := fall_app hI (n := gIndex f 30) (by omega) hn hx hE (by omega)
      refine ⟨a1, a2, by rw [cloneR_app, c0]; rfl, ?_⟩
      rw [recsN_app, hr]
      simp only [recsN, nl_wRow]
      omega
    have rep : ∀ rs : List (List Cell), (∀ r ∈ rs, okB (nl r 0) = true ∧ 1 ≤ (nl r 0).length ∧ (nl r 0).length ≤ 41 ∧ r = wRow (nl r 0)) → rs.length ≤ 4 → okDk 768 768 (repM (d.fail (gIndex f 30)) l rs).d = true ∧
        (((repM (d.fail (gIndex f 30)) l rs).e = 0 ∧ ∀ k t, Fall ((repM (d.fail (gIndex f 30)) l rs).d.crash k t) rs) ∨ ((repM (d.fail (gIndex f 30)) l rs).e = 15 ∧ ∀ k t, Fall ((repM (d.fail (gIndex f 30)) l rs).d.crash k t) l.recs)) ∧
        cloneR rs = rs ∧ recsN rs ≤ 341 ∧ okRl rs = true := fun rs h1 h2 => by
      have hm := recsN_mul (a := rs) (k := 51) fun r h => by have := h1 r h; omega
      obtain ⟨a1, a2⟩ := fall_rep hI (n := gIndex f 30) (by omega) hn (rs := rs) (fun r h => (h1 r h).1) (recsE_mk fun r h => by have := h1 r h; omega) (by omega)
      exact ⟨a1, a2, clone_same fun r h => (h1 r h).2.2.2, by omega, okRl_mk (by omega) fun r h => (h1 r h).1⟩
    have e0 := @e9_0
    by_cases h0 : (mkRs t 4).length = 0
    · cases p with
      | true =>
        obtain ⟨a1, a2, a3, a4, a5⟩ := rep [[Cell.slice 5 [[Cell.int .u8 9]]]] (fun r h => by rw [List.mem_singleton.mp h]; exact ⟨rfl, by decide, by decide, rfl⟩) (by decide)
        obtain ⟨m, hm⟩ := fin9 (g := g) (k := q) (t := o) (F := some ([.one (.bool false)], [])) a1 a2 c0 n0 a3 a4
        refine ⟨m + 1, ?_⟩
        rw [e9_0]
        dsimp only
        rw [dk_eta, lg_eta, c0]
        exact cf (decide_eq_false (by omega)) (ct hrs (ct (and_mk (pd_t ht1) (pd_t (by omega))) (ct (beq_t (by omega)) (ct (fits_mk (by simp; omega)) (ct (fits_mk (by simp; omega)) (ct (pd_t (by omega)) (ct rfl (ct (and_mk (and_mk okf lgf) (hrp a5)) hm))))))))
      | false =>
        obtain ⟨a1, a2, a3, a4⟩ := app [[Cell.int .u8 9]] (by decide) (by decide) (by decide)
        obtain ⟨m, hm⟩ := fin9 (g := g) (k := q) (t := o) (F := some ([.one (.bool false)], [])) a1 a2 c0 n0 a3 a4
        refine ⟨m + 1, ?_⟩
        rw [e9_0]
        dsimp only
        rw [dk_eta, lg_eta, c0]
        exact cf (decide_eq_false (by omega)) (ct hrs (ct (and_mk (pd_t ht1) (pd_t (by omega))) (ct (beq_t (by omega)) (ct (fits_mk (by simp; omega)) (ct (fits_mk (by simp; omega)) (ct (pd_t (by omega)) (cf rfl (ct (and_mk (and_mk okf lgf) (hap (by decide))) hm))))))))
    · have hM := mkRs_of ht 4
      have hMl : (mkRs t 4).length ≤ 4 := hM.2
      have hin : inB 0 (mkRs t 4).length = true := inB_mk (by omega) (by omega)
      cases p with
      | true =>
        obtain ⟨a1, a2, a3, a4, a5⟩ := rep (mkRs t 4) hM.1 hMl
        obtain ⟨m, hm⟩ := fin9 (g := g) (k := q) (t := o) (F := some ([.one (.bool false)], [])) a1 a2 c0 n0 a3 a4
        refine ⟨m + 1, ?_⟩
        rw [e9_0]
        dsimp only
        rw [dk_eta, lg_eta, c0]
        exact cf (decide_eq_false (by omega)) (ct hrs (ct (and_mk (pd_t ht1) (pd_t (by omega))) (cf (beq_eq_false_iff_ne.mpr (by omega)) (ct (fits_mk (by simp; omega)) (ct hin (ct (fits_mk (by simp; omega)) (ct (pd_t (by omega)) (ct rfl (ct (and_mk (and_mk okf lgf) (hrp a5)) hm)))))))))
      | false =>
        have hx := hM.1 _ (rowAt_mem (x := mkRs t 4) (i := 0) (by omega))
        obtain ⟨a1, a2, a3, a4⟩ := app (nl (Abs.rowAt (mkRs t 4) 0) 0) hx.1 hx.2.1 hx.2.2.1
        obtain ⟨m, hm⟩ := fin9 (g := g) (k := q) (t := o) (F := some ([.one (.bool false)], [])) a1 a2 c0 n0 a3 a4
        refine ⟨m + 1, ?_⟩
        rw [e9_0]
        dsimp only
        rw [dk_eta, lg_eta, c0]
        exact cf (decide_eq_false (by omega)) (ct hrs (ct (and_mk (pd_t ht1) (pd_t (by omega))) (cf (beq_eq_false_iff_ne.mpr (by omega)) (ct (fits_mk (by simp; omega)) (ct hin (ct (fits_mk (by simp; omega)) (ct (pd_t (by omega)) (cf rfl (ct hin (ct (and_mk (and_mk okf lgf) (hap hx.1)) hm))))))))))
  | succ k ih =>
    intro i d l hi hI hn hr
    have hh := half768 hn
    obtain ⟨a0, a1, a2, a3, a4, a5⟩ := app_next hI hs (i := i) (by omega) hr (by omega)
    obtain ⟨m, hm⟩ := ih (i + 1) _ _ (by omega) a2 (by omega) a3
    refine ⟨m + 1, ?_⟩
    rw [e9_0]
    dsimp only
    rw [dk_eta, lg_eta, Int.toNat_natCast, wrap64 (n := (i : Int) + 1) (by omega) (by omega)]
    exact ct (decide_eq_true (by omega)) (ct (inB_nat' (by omega)) (ct (and_mk (and_mk (hI.live.okDk hn) hI.live.okLg) (hI.live.okAp a0)) (cf (bne_f a1) (by exact_mod_cast hm))))

theorem k9 (r t : List (List Cell)) (p : Bool) (f q o : Int) (g : List (List Cell)) (hr : okArg r = true) (ht : okArg t = true) : ∃ m, runF E (callOf L22b) m 9 [.one (.sl false 22 r), .one (.sl false 22 t), .one (.bool p), .one (.int .i64 f), .one (.int .i64 q), .one (.int .i64 o), .one (.sl false 67 g)] [] = some ([.one (.bool true)], []) := by
  obtain ⟨hr1, hr2⟩ := okArg_of hr
  obtain ⟨ht1, ht2⟩ := okArg_of ht
  have hL := live_new 24 (by omega)
  have hI := inv_new 24 (by omega)
  have hA := mkRs_of hr2 4
  have he : (openM (newDk 24)).e = 0 := by rw [open_new 24 (by omega)]
  have hrec : (openM (newDk 24)).l.recs = [] := by rw [open_new 24 (by omega)]
  obtain ⟨m, hm⟩ := l9_0 (g := g) (p := p) (f := f) (q := q) (o := o) ht1 ht2 hA.1 hA.2 (mkRs r 4).length 0 _ _ (by omega) hI (by rw [hL.2.1, secN24]) (by rw [hrec]; rfl)
  refine ⟨m + 1, ?_⟩
  rw [e9, oL_t he, secN24]
  refine ct (and_mk (okDk_mk ?_ ?_ (new_ok 24)) (pd_t (by show 0 ≤ 1000000; omega))) (ct (okM_t he) (cf (bne_f he) (ct (and_mk (pd_t hr1) (pd_t (by omega))) hm)))
  · show 768 = (List.replicate (secN 24) _).length
    rw [secN24, List.length_replicate]
  · show 768 = (List.replicate (secN 24) _).length
    rw [secN24, List.length_replicate]

end Go.Proofs.Ytpafnokcmhlbgaa
