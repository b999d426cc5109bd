/-
  The contract of opening a log.
-/
import Derived.Test.YtpafnokcmhlbgaaW7
namespace Go.Proofs.Ytpafnokcmhlbgaa
open Go.Abs

theorem scanF_range : ∀ (k : Nat) (g o : Int) (b : List (List Cell)), okB b = true → o ≤ (scanF k g o b).2 ∧ (scanF k g o b).2 ≤ o + b.length ∧ ((scanF k g o b).1.length : Int) ≤ (scanF k g o b).2 - o
  | 0, g, o, b, _ => by simp only [scanF, List.length_nil]; omega
  | k + 1, g, o, b, hb => by
    rw [scanF]
    split
    · rename_i h
      have hl := recB_len hb h
      have ih := scanF_range k g (o + (recB g o b).1.length + 10) (b.drop ((recB g o b).1.length + 10)) (okB_drop hb _)
      rw [List.length_drop] at ih
      simp only [List.length_cons]
      omega
    · simp only [List.length_nil]; omega
theorem wScan_range {g : Int} {b : List (List Cell)} (hb : okB b = true) : 0 ≤ (wScan g b).2 ∧ (wScan g b).2 ≤ b.length ∧ ((wScan g b).1.length : Int) ≤ (wScan g b).2 := by
  have := scanF_range b.length g 0 b hb
  unfold wScan
  omega
theorem wGen_range {b : List (List Cell)} (hb : okB b = true) (hl : b.length = 32) : 0 ≤ wGen b ∧ wGen b < 18446744073709551616 := by
  unfold wGen
  split
  · have := wNum_range hb (i := 4) (j := 12) (by omega) (by omega)
    rw [show (12 - 4 : Nat) = 8 from rfl] at this
    have e : (256 : Int) ^ 8 = 18446744073709551616 := by decide
    rw [e] at this
    exact this
  · omega

theorem oT {un cn : Nat} {d : Dk} {a g : Int} {b : List (List Cell)} {n : Int} {s : List (List Cell) × Int} {st : Dr} {Z f : Bool} {X1 : Option (List AV × List Block)} (h : okDk un cn d = true) (hq : d.q.length ≤ 2000000) (ha : okSeg a = true) (hg : okV g = true) (hb : okB b = true) (hbl : b.length ≤ 65536)
    (hs : s = wScan g b) (hn : n = b.length - s.2) (hst : st = d.store (a * d.half + 32 + s.2) (zeros n)) (h0 : (openT d a g b).e = 0) (hZ : Z = true) (hf : f = false) :
    (cond (okV g && okBl b) (cond (inB s.2 (b.length + 1)) (cond (okBl (dropN b (Int.toNat s.2))) (cond (!(zeroB (dropN b (Int.toNat s.2)))) (cond (okDk un cn d && okSeg a) (cond Z (cond (okMake n n) (cond (okDk un cn d && okWx d (List.replicate (Int.toNat n) [Cell.int .u8 0]))
      (cond (st.e != 0) X1 (some ([.one (.ptr 3 0), .one (.int .i64 0)], [dV un cn st.d, .arr 5 st.d.dur, .arr 5 st.d.cur, lV 0 ⟨a, g, s.1, s.2, st.e != 0⟩]))) none) none) none) none) (some ([.one (.ptr 3 0), .one (.int .i64 0)], [dV un cn d, .arr 5 d.dur, .arr 5 d.cur, lV 0 ⟨a, g, s.1, s.2, f⟩]))) none) none) none) =
      some ([.one (.ptr 3 0), .one (.int .i64 0)], [dV un cn (openT d a g b).d, .arr 5 (openT d a g b).d.dur, .arr 5 (openT d a g b).d.cur, lV 0 (openT d a g b).l]) := by
  subst hs hn hst hZ hf
  have hr := wScan_range (g := g) hb
  have hbd := okB_drop hb (wScan g b).2.toNat
  rw [dropN_eq]
  refine ct (and_mk hg (and_mk hb (pd_t (by omega)))) (ct (inB_le (by omega) (by omega)) (ct (and_mk hbd (pd_t (by rw [List.length_drop]; omega))) ?_))
  unfold openT at h0 ⊢
  cases hz : zeroB (b.drop (wScan g b).2.toNat) with
  | true =>
    rw [if_pos rfl]
    exact cf rfl rfl
  | false =>
    rw [hz, if_neg (by simp)] at h0
    rw [if_neg (by simp)]
    refine ct rfl (ct (and_mk h ha) (ct rfl (ct (okMake_mk (by omega) (by omega)) (ct (and_mk h (okWx_mk (okB_rep _) (by rw [List.length_replicate]; omega))) ?_))))
    dsimp only at h0 ⊢
    rw [h0]
    exact cf rfl rfl

theorem k22 (un cn : Nat) (d : Dk) (h : okDk un cn d = true) (hq : d.q.length ≤ 1000000) (h0 : (openM d).e = 0) : runF E (callOf L50) 1 22 [.one (.ptr 0 0)] (dB un cn d) =
    some ([.one (.ptr 3 0), .one (.int .i64 0)], [dV un cn (openM d).d, .arr 5 (openM d).d.dur, .arr 5 (openM d).d.cur, lV 0 (openM d).l]) := by
  obtain ⟨hu, hc, hd⟩ := okDk_of h
  have hh := half_of hd
  have h1 := hd.le
  have h2 := hd.cd
  have hbc := hd.bc
  rw [e22]
  simp (config := { zeta := false }) only [dk_eta]
  extract_lets z2 z4 z10 z1 z11 z5 z12 z3 z8 z13 z6 z9 z14 z15 z7 z16
  have h3 : ¬ d.dur.length < 128 := fun hc => by unfold openM at h0; rw [if_pos hc] at h0; cases h0
  have h4 : d.down = false := by
    cases hdn : d.down with
    | false => rfl
    | true => unfold openM at h0; rw [if_neg h3, if_pos hdn] at h0; cases h0
  have h64 := hh.2.2.2 (by omega)
  have c0 : d.chk (0 * d.half) 32 = 0 := chk_mk h4 (by omega) (by omega) (by omega)
  have c1 : d.chk (1 * d.half) 32 = 0 := chk_mk h4 (by omega) (by omega) (by omega)
  have c2 : d.chk (0 * d.half + 32) (d.half - 32) = 0 := chk_mk h4 (by omega) (by omega) (by omega)
  have c3 : d.chk (1 * d.half + 32) (d.half - 32) = 0 := chk_mk h4 (by omega) (by omega) (by omega)
  have q0 : z11 = subL d.cur (0 * d.half).toNat (0 * d.half + 32).toNat := rd_of c0
  have q1 : z10 = subL d.cur (1 * d.half).toNat (1 * d.half + 32).toNat := rd_of c1
  have q2 : z2 = d.area 0 := by
    have := rd_of c2
    rw [show 0 * d.half + 32 + (d.half - 32) = (0 + 1) * d.half by omega] at this
    exact this
  have q3 : z4 = d.area 1 := by
    have := rd_of c3
    rw [show 1 * d.half + 32 + (d.half - 32) = (1 + 1) * d.half by omega] at this
    exact this
  have g0 : wGen z11 = d.gen 0 := by rw [q0]; rfl
  have g1 : wGen z10 = d.gen 1 := by rw [q1]; rfl
  have b0 : okB z11 = true := by rw [q0]; exact okB_sub hbc _ _
  have b1 : okB z10 = true := by rw [q1]; exact okB_sub hbc _ _
  have b2 : okB z2 = true := by rw [q2, Dk.area]; exact okB_sub hbc _ _
  have b3 : okB z4 = true := by rw [q3, Dk.area]; exact okB_sub hbc _ _
  have n0 : z11.length = 32 := by rw [q0, subL_len (by omega)]; omega
  have n1 : z10.length = 32 := by rw [q1, subL_len (by omega)]; omega
  have n2 : (z2.length : Int) = d.half - 32 := by rw [q2, Dk.area, subL_len (by omega)]; omega
  have n3 : (z4.length : Int) = d.half - 32 := by rw [q3, Dk.area, subL_len (by omega)]; omega
  have r0 := wGen_range b0 n0
  have r1 := wGen_range b1 n1
  have s1 := wScan_range (g := wGen z10) b3
  have s5 := wScan_range (g := wGen z11) b2
  have s8 := wScan_range (g := 1) b2
  have e13 : z13 = z4.length - z1.2 := wrap64 (by show _ ≤ (z4.length : Int) - (wScan (wGen z10) z4).2; omega) (by show (z4.length : Int) - (wScan (wGen z10) z4).2 ≤ _; omega)
  have e15 : z15 = z2.length - z5.2 := wrap64 (by show _ ≤ (z2.length : Int) - (wScan (wGen z11) z2).2; omega) (by show (z2.length : Int) - (wScan (wGen z11) z2).2 ≤ _; omega)
  have e6 : z6 = d.store (1 * d.half + 32 + z1.2) (zeros z13) := by
    have w : IntKind.wrap .i64 (1 * d.half + 32 + z1.2) = 1 * d.half + 32 + z1.2 := wrap64 (by show _ ≤ 1 * d.half + 32 + (wScan (wGen z10) z4).2; omega) (by show 1 * d.half + 32 + (wScan (wGen z10) z4).2 ≤ _; omega)
    rw [← w]; rfl
  have e7 : z7 = d.store (0 * d.half + 32 + z5.2) (zeros z15) := by
    have w : IntKind.wrap .i64 (0 * d.half + 32 + z5.2) = 0 * d.half + 32 + z5.2 := wrap64 (by show _ ≤ 0 * d.half + 32 + (wScan (wGen z11) z2).2; omega) (by show 0 * d.half + 32 + (wScan (wGen z11) z2).2 ≤ _; omega)
    rw [← w]; rfl
  have seg0 : okSeg 0 = true := seg_mk (.inl rfl)
  have seg1 : okSeg 1 = true := seg_mk (.inr rfl)
  have bl : ∀ {b : List (List Cell)}, okB b = true → (b.length : Int) = d.half - 32 → okBl b = true := fun hb hn => and_mk hb (pd_t (by omega))
  refine ct h (cf (decide_eq_false (by unfold secs; omega)) (cf h4 (ct (and_mk h seg0) (ct h (cf (by rw [c0]; rfl) (ct (and_mk b0 (pd_t n0)) (ct (and_mk h seg0) (ct h (ct h (cf (by rw [c2]; rfl) ?_))))))))))
  refine ct (and_mk h seg1) (ct h (cf (by rw [c1]; rfl) (ct (and_mk b1 (pd_t n1)) (ct (and_mk h seg1) (ct h (ct h (cf (by rw [c3]; rfl) ?_)))))))
  have fin1 : d.gen 0 < d.gen 1 → openM d = openT d 1 (d.gen 1) (d.area 1) := fun hg => by
    unfold openM
    rw [if_neg (h3), if_neg (by simp [h4]), if_neg (by omega), if_pos hg]
  have fin0 : ¬ d.gen 0 < d.gen 1 → ¬ (d.gen 0 = 0 ∧ d.gen 1 = 0) → openM d = openT d 0 (d.gen 0) (d.area 0) := fun hg hn => by
    unfold openM
    rw [if_neg (h3), if_neg (by simp [h4]), if_neg hn, if_neg hg]
  have sbz : ∀ (a b c e : Block), (true && (sb1 a && (sb1 b && (sb1 c && (sb1 e && true))))) = true := sbs
  by_cases y0 : d.gen 0 = 0
  · refine ct (by rw [g0, y0]; rfl) ?_
    by_cases y1 : d.gen 1 = 0
    · refine ct (by rw [g1, y1]; rfl) ?_
      have eo : openM d = if zeroB (d.area 0) = true ∧ zeroB (d.area 1) = true then
          if (d.store 0 (wHdr 1)).e = 0 then openT (d.store 0 (wHdr 1)).d 0 1 (d.area 0) else ⟨(d.store 0 (wHdr 1)).d, Lg.none, (d.store 0 (wHdr 1)).e⟩
          else ⟨d, Lg.none, 2⟩ := by
        unfold openM
        rw [if_neg h3, if_neg (by simp [h4]), if_pos ⟨y0, y1⟩]
      have hz : zeroB (d.area 0) = true ∧ zeroB (d.area 1) = true := by
        by_cases hz : zeroB (d.area 0) = true ∧ zeroB (d.area 1) = true
        · exact hz
        · rw [eo, if_neg hz] at h0; cases h0
      rw [if_pos hz] at eo
      have he : (d.store 0 (wHdr 1)).e = 0 := by
        by_cases he : (d.store 0 (wHdr 1)).e = 0
        · exact he
        · rw [eo, if_neg he] at h0; exact absurd h0 he
      rw [if_pos he] at eo
      have z12e : z12 = d.store 0 (wHdr 1) := by
        show d.store (0 * d.half) (wHdr 1) = _
        rw [Int.zero_mul]
      have hw : okB (wHdr 1) = true := wHdr_okB 1
      have hwl : (wHdr 1).length = 32 := wHdr_len 1
      have hk : Kept d z3 32 := by
        have := store_kept (o := 0) hd hw (by rw [hwl]; omega)
        rw [hwl] at this
        show Kept d z12.d 32
        rw [z12e]; exact this
      have hkh := hk.half
      have hkq := hk.q
      have z3e : z3 = (d.store 0 (wHdr 1)).d := by show z12.d = _; rw [z12e]
      refine ct (bl b2 n2) (cf (by rw [q2, hz.1]; rfl) (ct (bl b3 n3) (cf (by rw [q3, hz.2]; rfl) (ct (and_mk h seg0) (ct (okV_mk (by omega) (by omega)) (ct (and_mk h (okWx_mk hw (by rw [hwl]; omega))) (cf (by rw [z12e, he]; rfl) (cf (decide_eq_false (by omega)) ?_))))))))
      rw [eo] at h0 ⊢
      rw [← z3e, ← q2] at h0 ⊢
      have hn8 : IntKind.wrap .i64 ((z2.length : Int) - (wScan 1 z2).2) = z2.length - (wScan 1 z2).2 := wrap64 (by omega) (by omega)
      have e8 : z8 = z3.store (0 * z3.half + 32 + (wScan 1 z2).2) (zeros (IntKind.wrap .i64 ((z2.length : Int) - (wScan 1 z2).2))) := by
        have w : IntKind.wrap .i64 (0 * z3.half + 32 + (wScan 1 z2).2) = 0 * z3.half + 32 + (wScan 1 z2).2 := wrap64 (by omega) (by omega)
        rw [← w]; rfl
      exact oT (kept_ok h hk) (by omega) seg0 (okV_mk (by omega) (by omega)) b2 (by omega) rfl hn8 e8 h0 (sbz _ _ _ _) (by rw [z12e, he]; rfl)
    · refine cf (beq_eq_false_iff_ne.mpr (by rw [g1]; exact y1)) ?_
      have hlt : d.gen 0 < d.gen 1 := by omega
      rw [fin1 hlt] at h0 ⊢
      rw [← g1, ← q3] at h0 ⊢
      refine ct (decide_eq_true (by omega)) ?_
      exact oT h (by omega) seg1 (okV_mk r1.1 r1.2) b3 (by omega) rfl e13 e6 h0 (sbz _ _ _ _) rfl
  · refine cf (beq_eq_false_iff_ne.mpr (by rw [g0]; exact y0)) ?_
    by_cases hlt : d.gen 0 < d.gen 1
    · rw [fin1 hlt] at h0 ⊢
      refine ct (decide_eq_true (by omega)) ?_
      rw [← g1, ← q3] at h0 ⊢
      exact oT h (by omega) seg1 (okV_mk r1.1 r1.2) b3 (by omega) rfl e13 e6 h0 (sbz _ _ _ _) rfl
    · rw [fin0 hlt (fun hc => y0 hc.1)] at h0 ⊢
      refine cf (decide_eq_false (by omega)) ?_
      rw [← g0, ← q2] at h0 ⊢
      exact oT h (by omega) seg0 (okV_mk r0.1 r0.2) b2 (by omega) rfl e15 e7 h0 (sbz _ _ _ _) rfl

end Go.Proofs.Ytpafnokcmhlbgaa
