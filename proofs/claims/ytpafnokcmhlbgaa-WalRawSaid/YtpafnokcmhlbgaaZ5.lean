/-
  Merged texts: W8, W9, W10, Eq3, W11, W12, W14, Eq5, V1, V2, V3, V4, V0, V5, Eq4, W17, V6, V7, A30, ValR, Fn.
-/
import Derived.Test.YtpafnokcmhlbgaaZ4

namespace Go.Proofs.Ytpafnokcmhlbgaa

open Go.Abs

theorem scanF_range : ∀ (k : Nat) (g o : Int) (b : List (List Cell)), okB b = true → o ≤ (scanF k g o b).2 ∧ (scanF k g o b).2 ≤ o + b.length ∧ ((scanF k g o b).1.length : Int) ≤ (scanF k g o b).2 - o
  | 0, g, o, b, _ => by simp only [scanF, List.length_nil]; omega
  | k + 1, g, o, b, hb => by
    rw [scanF]
    split
    · rename_i h
      have hl := recB_len hb h
      have ih := scanF_range k g (o + (recB g o b).1.length + 10) (b.drop ((recB g o b).1.length + 10)) (okB_drop hb _)
      rw [List.length_drop] at ih
      simp only [List.length_cons]
      omega
    · simp only [List.length_nil]; omega

theorem wScan_range {g : Int} {b : List (List Cell)} (hb : okB b = true) : 0 ≤ (wScan g b).2 ∧ (wScan g b).2 ≤ b.length ∧ ((wScan g b).1.length : Int) ≤ (wScan g b).2 := by
  have := scanF_range b.length g 0 b hb
  unfold wScan
  omega

theorem wGen_range {b : List (List Cell)} (hb : okB b = true) (hl : b.length = 32) : 0 ≤ wGen b ∧ wGen b < 18446744073709551616 := by
  unfold wGen
  split
  · have := wNum_range hb (i := 4) (j := 12) (by omega) (by omega)
    rw [show (12 - 4 : Nat) = 8 from rfl] at this
    have e : (256 : Int) ^ 8 = 18446744073709551616 := by decide
    rw [e] at this
    exact this
  · omega

theorem oT {un cn : Nat} {d : Dk} {a g : Int} {b : List (List Cell)} {n : Int} {s : List (List Cell) × Int} {st : Dr} {Z f : Bool} {X1 : Option (List AV × List Block)} (h : okDk un cn d = true) (hq : d.q.length ≤ 2000000) (ha : okSeg a = true) (hg : okV g = true) (hb : okB b = true) (hbl : b.length ≤ 65536)
    (hs : s = wScan g b) (hn : n = b.length - s.2) (hst : st = d.store (a * d.half + 32 + s.2) (zeros n)) (h0 : (openT d a g b).e = 0) (hZ : Z = true) (hf : f = false) :
    (cond (okV g && okBl b) (cond (inB s.2 (b.length + 1)) (cond (okBl (dropN b (Int.toNat s.2))) (cond (!(zeroB (dropN b (Int.toNat s.2)))) (cond (okDk un cn d && okSeg a) (cond Z (cond (okMake n n) (cond (okDk un cn d && okWx d (List.replicate (Int.toNat n) [Cell.int .u8 0]))
      (cond (st.e != 0) X1 (some ([.one (.ptr 3 0), .one (.int .i64 0)], [dV un cn st.d, .arr 5 st.d.dur, .arr 5 st.d.cur, lV 0 ⟨a, g, s.1, s.2, st.e != 0⟩]))) none) none) none) none) (some ([.one (.ptr 3 0), .one (.int .i64 0)], [dV un cn d, .arr 5 d.dur, .arr 5 d.cur, lV 0 ⟨a, g, s.1, s.2, f⟩]))) none) none) none) =
      some ([.one (.ptr 3 0), .one (.int .i64 0)], [dV un cn (openT d a g b).d, .arr 5 (openT d a g b).d.dur, .arr 5 (openT d a g b).d.cur, lV 0 (openT d a g b).l]) := by
  subst hs hn hst hZ hf
  have hr := wScan_range (g := g) hb
  have hbd := okB_drop hb (wScan g b).2.toNat
  rw [dropN_eq]
  refine ct (and_mk hg (and_mk hb (pd_t (by omega)))) (ct (inB_le (by omega) (by omega)) (ct (and_mk hbd (pd_t (by rw [List.length_drop]; omega))) ?_))
  unfold openT at h0 ⊢
  cases hz : zeroB (b.drop (wScan g b).2.toNat) with
  | true =>
    rw [if_pos rfl]
    exact cf rfl rfl
  | false =>
    rw [hz, if_neg (by simp)] at h0
    rw [if_neg (by simp)]
    refine ct rfl (ct (and_mk h ha) (ct rfl (ct (okMake_mk (by omega) (by omega)) (ct (and_mk h (okWx_mk (okB_rep _) (by rw [List.length_replicate]; omega))) ?_))))
    dsimp only at h0 ⊢
    rw [h0]
    exact cf rfl rfl

theorem k22 (un cn : Nat) (d : Dk) (h : okDk un cn d = true) (hq : d.q.length ≤ 1000000) (h0 : (openM d).e = 0) : runF E (callOf L50) 1 22 [.one (.ptr 0 0)] (dB un cn d) =
    some ([.one (.ptr 3 0), .one (.int .i64 0)], [dV un cn (openM d).d, .arr 5 (openM d).d.dur, .arr 5 (openM d).d.cur, lV 0 (openM d).l]) := by
  obtain ⟨hu, hc, hd⟩ := okDk_of h
  have hh := half_of hd
  have h1 := hd.le
  have h2 := hd.cd
  have hbc := hd.bc
  rw [e22]
  simp (config := { zeta := false }) only [dk_eta]
  extract_lets z2 z4 z10 z1 z11 z5 z12 z3 z8 z13 z6 z9 z14 z15 z7 z16
  have h3 : ¬ d.dur.length < 128 := fun hc => by unfold openM at h0; rw [if_pos hc] at h0; cases h0
  have h4 : d.down = false := by
    cases hdn : d.down with
    | false => rfl
    | true => unfold openM at h0; rw [if_neg h3, if_pos hdn] at h0; cases h0
  have h64 := hh.2.2.2 (by omega)
  have c0 : d.chk (0 * d.half) 32 = 0 := chk_mk h4 (by omega) (by omega) (by omega)
  have c1 : d.chk (1 * d.half) 32 = 0 := chk_mk h4 (by omega) (by omega) (by omega)
  have c2 : d.chk (0 * d.half + 32) (d.half - 32) = 0 := chk_mk h4 (by omega) (by omega) (by omega)
  have c3 : d.chk (1 * d.half + 32) (d.half - 32) = 0 := chk_mk h4 (by omega) (by omega) (by omega)
  have q0 : z11 = subL d.cur (0 * d.half).toNat (0 * d.half + 32).toNat := rd_of c0
  have q1 : z10 = subL d.cur (1 * d.half).toNat (1 * d.half + 32).toNat := rd_of c1
  have q2 : z2 = d.area 0 := by
    have := rd_of c2
    rw [show 0 * d.half + 32 + (d.half - 32) = (0 + 1) * d.half by omega] at this
    exact this
  have q3 : z4 = d.area 1 := by
    have := rd_of c3
    rw [show 1 * d.half + 32 + (d.half - 32) = (1 + 1) * d.half by omega] at this
    exact this
  have g0 : wGen z11 = d.gen 0 := by rw [q0]; rfl
  have g1 : wGen z10 = d.gen 1 := by rw [q1]; rfl
  have b0 : okB z11 = true := by rw [q0]; exact okB_sub hbc _ _
  have b1 : okB z10 = true := by rw [q1]; exact okB_sub hbc _ _
  have b2 : okB z2 = true := by rw [q2, Dk.area]; exact okB_sub hbc _ _
  have b3 : okB z4 = true := by rw [q3, Dk.area]; exact okB_sub hbc _ _
  have n0 : z11.length = 32 := by rw [q0, subL_len (by omega)]; omega
  have n1 : z10.length = 32 := by rw [q1, subL_len (by omega)]; omega
  have n2 : (z2.length : Int) = d.half - 32 := by rw [q2, Dk.area, subL_len (by omega)]; omega
  have n3 : (z4.length : Int) = d.half - 32 := by rw [q3, Dk.area, subL_len (by omega)]; omega
  have r0 := wGen_range b0 n0
  have r1 := wGen_range b1 n1
  have s1 := wScan_range (g := wGen z10) b3
  have s5 := wScan_range (g := wGen z11) b2
  have s8 := wScan_range (g := 1) b2
  have e13 : z13 = z4.length - z1.2 := wrap64 (by show _ ≤ (z4.length : Int) - (wScan (wGen z10) z4).2; omega) (by show (z4.length : Int) - (wScan (wGen z10) z4).2 ≤ _; omega)
  have e15 : z15 = z2.length - z5.2 := wrap64 (by show _ ≤ (z2.length : Int) - (wScan (wGen z11) z2).2; omega) (by show (z2.length : Int) - (wScan (wGen z11) z2).2 ≤ _; omega)
  have e6 : z6 = d.store (1 * d.half + 32 + z1.2) (zeros z13) := by
    have w : IntKind.wrap .i64 (1 * d.half + 32 + z1.2) = 1 * d.half + 32 + z1.2 := wrap64 (by show _ ≤ 1 * d.half + 32 + (wScan (wGen z10) z4).2; omega) (by show 1 * d.half + 32 + (wScan (wGen z10) z4).2 ≤ _; omega)
    rw [← w]; rfl
  have e7 : z7 = d.store (0 * d.half + 32 + z5.2) (zeros z15) := by
    have w : IntKind.wrap .i64 (0 * d.half + 32 + z5.2) = 0 * d.half + 32 + z5.2 := wrap64 (by show _ ≤ 0 * d.half + 32 + (wScan (wGen z11) z2).2; omega) (by show 0 * d.half + 32 + (wScan (wGen z11) z2).2 ≤ _; omega)
    rw [← w]; rfl
  have seg0 : okSeg 0 = true := seg_mk (.inl rfl)
  have seg1 : okSeg 1 = true := seg_mk (.inr rfl)
  have bl : ∀ {b : List (List Cell)}, okB b = true → (b.length : Int) = d.half - 32 → okBl b = true := fun hb hn => and_mk hb (pd_t (by omega))
  refine ct h (cf (decide_eq_false (by unfold secs; omega)) (cf h4 (ct (and_mk h seg0) (ct h (cf (by rw [c0]; rfl) (ct (and_mk b0 (pd_t n0)) (ct (and_mk h seg0) (ct h (ct h (cf (by rw [c2]; rfl) ?_))))))))))
  refine ct (and_mk h seg1) (ct h (cf (by rw [c1]; rfl) (ct (and_mk b1 (pd_t n1)) (ct (and_mk h seg1) (ct h (ct h (cf (by rw [c3]; rfl) ?_)))))))
  have fin1 : d.gen 0 < d.gen 1 → openM d = openT d 1 (d.gen 1) (d.area 1) := fun hg => by
    unfold openM
    rw [if_neg (h3), if_neg (by simp [h4]), if_neg (by omega), if_pos hg]
  have fin0 : ¬ d.gen 0 < d.gen 1 → ¬ (d.gen 0 = 0 ∧ d.gen 1 = 0) → openM d = openT d 0 (d.gen 0) (d.area 0) := fun hg hn => by
    unfold openM
    rw [if_neg (h3), if_neg (by simp [h4]), if_neg hn, if_neg hg]
  have sbz : ∀ (a b c e : Block), (true && (sb1 a && (sb1 b && (sb1 c && (sb1 e && true))))) = true := sbs
  by_cases y0 : d.gen 0 = 0
  · refine ct (by rw [g0, y0]; rfl) ?_
    by_cases y1 : d.gen 1 = 0
    · refine ct (by rw [g1, y1]; rfl) ?_
      have eo : openM d = if zeroB (d.area 0) = true ∧ zeroB (d.area 1) = true then
          if (d.store 0 (wHdr 1)).e = 0 then openT (d.store 0 (wHdr 1)).d 0 1 (d.area 0) else ⟨(d.store 0 (wHdr 1)).d, Lg.none, (d.store 0 (wHdr 1)).e⟩
          else ⟨d, Lg.none, 2⟩ := by
        unfold openM
        rw [if_neg h3, if_neg (by simp [h4]), if_pos ⟨y0, y1⟩]
      have hz : zeroB (d.area 0) = true ∧ zeroB (d.area 1) = true := by
        by_cases hz : zeroB (d.area 0) = true ∧ zeroB (d.area 1) = true
        · exact hz
        · rw [eo, if_neg hz] at h0; cases h0
      rw [if_pos hz] at eo
      have he : (d.store 0 (wHdr 1)).e = 0 := by
        by_cases he : (d.store 0 (wHdr 1)).e = 0
        · exact he
        · rw [eo, if_neg he] at h0; exact absurd h0 he
      rw [if_pos he] at eo
      have z12e : z12 = d.store 0 (wHdr 1) := by
        show d.store (0 * d.half) (wHdr 1) = _
        rw [Int.zero_mul]
      have hw : okB (wHdr 1) = true := wHdr_okB 1
      have hwl : (wHdr 1).length = 32 := wHdr_len 1
      have hk : Kept d z3 32 := by
        have := store_kept (o := 0) hd hw (by rw [hwl]; omega)
        rw [hwl] at this
        show Kept d z12.d 32
        rw [z12e]; exact this
      have hkh := hk.half
      have hkq := hk.q
      have z3e : z3 = (d.store 0 (wHdr 1)).d := by show z12.d = _; rw [z12e]
      refine ct (bl b2 n2) (cf (by rw [q2, hz.1]; rfl) (ct (bl b3 n3) (cf (by rw [q3, hz.2]; rfl) (ct (and_mk h seg0) (ct (okV_mk (by omega) (by omega)) (ct (and_mk h (okWx_mk hw (by rw [hwl]; omega))) (cf (by rw [z12e, he]; rfl) (cf (decide_eq_false (by omega)) ?_))))))))
      rw [eo] at h0 ⊢
      rw [← z3e, ← q2] at h0 ⊢
      have hn8 : IntKind.wrap .i64 ((z2.length : Int) - (wScan 1 z2).2) = z2.length - (wScan 1 z2).2 := wrap64 (by omega) (by omega)
      have e8 : z8 = z3.store (0 * z3.half + 32 + (wScan 1 z2).2) (zeros (IntKind.wrap .i64 ((z2.length : Int) - (wScan 1 z2).2))) := by
        have w : IntKind.wrap .i64 (0 * z3.half + 32 + (wScan 1 z2).2) = 0 * z3.half + 32 + (wScan 1 z2).2 := wrap64 (by omega) (by omega)
        rw [← w]; rfl
      exact oT (kept_ok h hk) (by omega) seg0 (okV_mk (by omega) (by omega)) b2 (by omega) rfl hn8 e8 h0 (sbz _ _ _ _) (by rw [z12e, he]; rfl)
    · refine cf (beq_eq_false_iff_ne.mpr (by rw [g1]; exact y1)) ?_
      have hlt : d.gen 0 < d.gen 1 := by omega
      rw [fin1 hlt] at h0 ⊢
      rw [← g1, ← q3] at h0 ⊢
      refine ct (decide_eq_true (by omega)) ?_
      exact oT h (by omega) seg1 (okV_mk r1.1 r1.2) b3 (by omega) rfl e13 e6 h0 (sbz _ _ _ _) rfl
  · refine cf (beq_eq_false_iff_ne.mpr (by rw [g0]; exact y0)) ?_
    by_cases hlt : d.gen 0 < d.gen 1
    · rw [fin1 hlt] at h0 ⊢
      refine ct (decide_eq_true (by omega)) ?_
      rw [← g1, ← q3] at h0 ⊢
      exact oT h (by omega) seg1 (okV_mk r1.1 r1.2) b3 (by omega) rfl e13 e6 h0 (sbz _ _ _ _) rfl
    · rw [fin0 hlt (fun hc => y0 hc.1)] at h0 ⊢
      refine cf (decide_eq_false (by omega)) ?_
      rw [← g0, ← q2] at h0 ⊢
      exact oT h (by omega) seg0 (okV_mk r0.1 r0.2) b2 (by omega) rfl e15 e7 h0 (sbz _ _ _ _) rfl

end Go.Proofs.Ytpafnokcmhlbgaa

namespace Go.Proofs.Ytpafnokcmhlbgaa

open Go.Abs

structure Good (d : Dk) : Prop where
  ok : DkOk d
  arm : d.arm = false
  down : d.down = false
  q : d.q = []
  cur : d.cur = d.dur

def onB (d : Dk) (b : List (List Cell)) : Dk := ⟨b, b, [], false, d.left, false⟩

theorem wrF_good : ∀ (k : Nat) (d : Dk) (o : Int) (x : List (List Cell)), d.arm = false → 0 ≤ o → o + x.length ≤ d.cur.length → x.length ≤ k →
    ∃ q', wrF k d o x = ⟨⟨d.dur, overL d.cur o.toNat x, d.q ++ q', d.arm, d.left, d.down⟩, 0⟩ ∧ ∀ b, b.length = d.cur.length → putQ b q' = overL b o.toNat x
  | 0, d, o, x, ha, h0, ho, hx => by
    have hx0 : x = [] := List.eq_nil_of_length_eq_zero (by omega)
    subst hx0
    refine ⟨[], ?_, fun b _ => (overL_nil b _).symm⟩
    rw [overL_nil, List.append_nil]; rfl
  | k + 1, d, o, x, ha, h0, ho, hx => by
    by_cases hx0 : x.length = 0
    · have hx0 : x = [] := List.eq_nil_of_length_eq_zero (by omega)
      subst hx0
      refine ⟨[], ?_, fun b _ => (overL_nil b _).symm⟩
      rw [overL_nil, List.append_nil, wrF_zero]
    obtain ⟨p1, p2, p3, p4⟩ := pcN_of (o := o) (n := x.length) h0 (by omega)
    rw [wrF, if_neg hx0, if_neg (by simp [ha]), if_neg (by simp [ha])]
    generalize pcN o x.length = p at p1 p2 p3 p4
    have htl : (x.take p).length = p := by rw [List.length_take]; omega
    have ov : ∀ b : List (List Cell), b.length = d.cur.length → overL (overL b o.toNat (x.take p)) (o + p).toNat (x.drop p) = overL b o.toNat x := fun b hb => by
      have e : (o + (p : Int)).toNat = o.toNat + (x.take p).length := by omega
      rw [e, overL_over (by rw [List.length_drop]; omega), List.take_append_drop]
    have hol : ∀ b : List (List Cell), b.length = d.cur.length → (overL b o.toNat (x.take p)).length = d.cur.length := fun b hb => by rw [overL_len (by omega), hb]
    obtain ⟨q', h1, h2⟩ := wrF_good k ⟨d.dur, overL d.cur o.toNat (x.take p), d.q ++ [pcR o (x.take p)], d.arm, d.left, d.down⟩ (o + p) (x.drop p) ha (by omega) (by show _ ≤ ((overL d.cur o.toNat (x.take p)).length : Int); rw [hol _ rfl, List.length_drop]; omega) (by rw [List.length_drop]; omega)
    refine ⟨pcR o (x.take p) :: q', ?_, ?_⟩
    · rw [h1]
      dsimp only
      rw [ov _ rfl, List.append_assoc]
      rfl
    · intro b hb
      have := h2 (overL b o.toNat (x.take p)) (by rw [hol b hb]; exact (hol _ rfl).symm)
      rw [putQ]
      show putQ (overL b o.toNat (x.take p)) q' = _
      rw [this, ov b hb]

theorem store_good {d : Dk} (h : Good d) {o : Int} {x : List (List Cell)} (h0 : 0 ≤ o) (ho : o + x.length ≤ d.dur.length) : d.store o x = ⟨onB d (overL d.dur o.toNat x), 0⟩ := by
  have hc := h.cur
  obtain ⟨q', h1, h2⟩ := wrF_good (x.length + 1) d o x h.arm h0 (by rw [hc]; exact ho) (by omega)
  have hw : d.write o x = ⟨⟨d.dur, overL d.cur o.toNat x, d.q ++ q', d.arm, d.left, d.down⟩, 0⟩ := by
    unfold Dk.write
    rw [if_neg (by rw [chk_mk h.down h0 (by omega) (by rw [hc]; omega)]; simp), h1]
  unfold Dk.store
  rw [hw, if_pos rfl]
  unfold Dk.sync
  rw [if_neg (by show ¬ d.down = true; rw [h.down]; simp)]
  dsimp only
  rw [h.q, List.nil_append, h2 d.dur (by rw [hc]), hc, h.arm, h.down]
  rfl

theorem onB_good {d : Dk} (h : Good d) {b : List (List Cell)} (hl : b.length = d.dur.length) (hb : okB b = true) : Good (onB d b) :=
  ⟨⟨rfl, by show 32 ≤ b.length; rw [hl]; exact h.ok.pos, by show b.length ≤ 65536; rw [hl]; exact h.ok.le, by show b.length % 32 = 0; rw [hl]; exact h.ok.sec, (fun r hr => by cases hr), by show 0 ≤ 4000000; omega, h.ok.left, hb, hb⟩, rfl, rfl, rfl, rfl⟩

theorem new_good (n : Int) : Good (newDk n) := ⟨new_ok n, rfl, rfl, rfl, rfl⟩

theorem onB_half {d : Dk} {b : List (List Cell)} (hl : b.length = d.dur.length) : (onB d b).half = d.half := by
  unfold Dk.half onB
  rw [hl]

theorem sub_mid (a b c : List (List Cell)) : subL (a ++ (b ++ c)) a.length (a.length + b.length) = b := by
  rw [subL_eq, ← List.append_assoc, List.take_append_of_le_length (by simp), List.take_of_length_le (by simp), List.drop_append]
  simp

theorem over_mid (a b c e : List (List Cell)) (h : e.length = b.length) : overL (a ++ (b ++ c)) a.length e = a ++ (e ++ c) := by
  rw [overL_eq, List.take_append_of_le_length (Nat.le_refl _), List.take_length, h]
  congr 2
  rw [← List.append_assoc, List.drop_append, List.drop_eq_nil_of_le (by simp)]
  simp

theorem wGen_hdr {g : Int} (h0 : 0 ≤ g) (h : g < 18446744073709551616) : wGen (wHdr g) = g := by
  have e : wNum (wHdr g) 4 12 = g := by
    unfold wNum
    have hm : wMag.length = 4 := rfl
    have hb := bigF_len 8 g
    have := sub_mid wMag (bigF 8 g) (bigF 4 (crcS (wMag ++ bigF 8 g)) ++ List.replicate 16 [.int .u8 0])
    rw [hm, hb] at this
    unfold wHdr
    rw [this, numF_big 8 0 g h0 (by rw [show (256 : Int) ^ 8 = 18446744073709551616 by decide]; exact h)]
    omega
  unfold wGen
  rw [e, if_pos rfl]

abbrev Z (n : Nat) : List (List Cell) := List.replicate n [.int .u8 0]

theorem numF_zero : ∀ (n : Nat), numF 0 (Z n) = 0
  | 0 => rfl
  | n + 1 => by rw [Z, List.replicate_succ, numF]; exact numF_zero n

theorem subL_zero {n i j : Nat} (h : j ≤ n) : subL (Z n) i j = Z (j - i) := by
  rw [subL_eq, List.take_replicate, List.drop_replicate]
  congr 1
  omega

theorem wGen_zero {n : Nat} (h : 12 ≤ n) : wGen (Z n) = 0 := by
  have e : wNum (Z n) 4 12 = 0 := by
    unfold wNum
    rw [subL_zero h]
    exact numF_zero _
  unfold wGen
  rw [e]
  split <;> rfl

theorem zeroB_zero (n : Nat) : zeroB (Z n) = true := by
  unfold zeroB
  rw [List.all_eq_true]
  intro r hr
  rw [List.eq_of_mem_replicate hr]
  rfl

theorem recB_zero (g o : Int) (n : Nat) : recB g o (Z n) = ([], false) := by
  unfold recB
  rw [if_pos]
  cases n with
  | zero => left; simp
  | succ n =>
    right
    show (0 : Int) ≠ 229
    decide

theorem scan_no {g o : Int} {b : List (List Cell)} (k : Nat) (h : (recB g o b).2 = false) : scanF k g o b = ([], o) := by
  cases k with
  | zero => rfl
  | succ k => rw [scanF, if_neg (by simp [h])]

theorem open_new (n : Int) (h : 4 ≤ n) : openM (newDk n) = ⟨onB (newDk n) (wHdr 1 ++ Z (secN n - 32)), ⟨0, 1, [], 0, false⟩, 0⟩ := by
  obtain ⟨h1, h2, h3, h4⟩ := secN_of n
  have h128 : 128 ≤ secN n := by
    have : (if (if 2048 < n then 2048 else n) > 1 then (if 2048 < n then 2048 else n) else 1) ≥ 4 := by (repeat' split) <;> omega
    omega
  have hl : (newDk n).dur.length = secN n := List.length_replicate ..
  have hg := new_good n
  have hh := half_of hg.ok
  have hhl : (newDk n).half = (secN n / 32 / 2 * 32 : Nat) := by unfold Dk.half; rw [hl]
  have hcu : (newDk n).cur = Z (secN n) := rfl
  have g0 : (newDk n).gen 0 = 0 := by
    unfold Dk.gen
    rw [hcu, subL_zero (by omega)]
    exact wGen_zero (by omega)
  have g1 : (newDk n).gen 1 = 0 := by
    unfold Dk.gen
    rw [hcu, subL_zero (by omega)]
    exact wGen_zero (by omega)
  have a0 : ∃ k, (newDk n).area 0 = Z k := ⟨_, by unfold Dk.area; rw [hcu, subL_zero (by omega)]⟩
  have a1 : ∃ k, (newDk n).area 1 = Z k := ⟨_, by unfold Dk.area; rw [hcu, subL_zero (by omega)]⟩
  obtain ⟨k0, a0⟩ := a0
  obtain ⟨k1, a1⟩ := a1
  have hs : (newDk n).store 0 (wHdr 1) = ⟨onB (newDk n) (wHdr 1 ++ Z (secN n - 32)), 0⟩ := by
    rw [store_good hg (by omega) (by rw [wHdr_len, hl]; omega)]
    have e : (newDk n).dur = Z 32 ++ Z (secN n - 32) := by
      show Z (secN n) = _
      rw [List.replicate_append_replicate]
      congr 1; omega
    have e2 := over_mid [] (Z 32) (Z (secN n - 32)) (wHdr 1) (by rw [wHdr_len]; simp)
    rw [e]
    simp only [List.nil_append] at e2
    rw [show (0 : Int).toNat = ([] : List (List Cell)).length from rfl, e2]
  unfold openM
  rw [if_neg (by omega), if_neg (by show ¬ false = true; simp), if_pos ⟨g0, g1⟩, a0, a1, if_pos ⟨zeroB_zero _, zeroB_zero _⟩, hs, if_pos rfl]
  unfold openT
  have hsc : wScan 1 (Z k0) = ([], 0) := by unfold wScan; exact scan_no _ (by rw [recB_zero])
  rw [hsc]
  rw [if_pos (by show zeroB ((Z k0).drop 0) = true; exact zeroB_zero _)]

structure Live (d : Dk) (l : Lg) : Prop where
  good : Good d
  lg : LgOk d l
  failed : l.failed = false
  fin : l.fin = recsN l.recs
  recs : ∀ r ∈ l.recs, okB (nl r 0) = true
  recsE : recsE l.recs = 0

theorem Live.okRs {d : Dk} {l : Lg} (h : Live d l) : okRs l.recs = true := by
  have h1 := h.lg.recs
  have h2 := half_of h.good.ok
  have h3 := h.lg.fin
  exact okRs_mk (by omega) fun r hr => ⟨h.recs r hr, (recsE_mem h.recsE r hr).2⟩

theorem nl_wRow (x : List (List Cell)) : nl (wRow x) 0 = x := rfl

theorem app_fits {d : Dk} {l : Lg} (h : Live d l) {x : List (List Cell)} (hx : okB x = true) (hE : recE x = 0) (hf : (x.length : Int) + 10 ≤ l.free d) :
    appM d l x = ⟨onB d (overL d.dur (l.act * d.half + 32 + l.fin).toNat (wEnc l.gen l.fin x)), ⟨l.act, l.gen, l.recs ++ [wRow x], l.fin + x.length + 10, false⟩, 0⟩ ∧
    Live (appM d l x).d (appM d l x).l ∧ (appM d l x).d.half = d.half := by
  have hfin := h.lg.fin
  have hsg := seg_half h.good.ok (s := l.act) (by have := h.lg.act; omega)
  have hwl := wEnc_len l.gen l.fin x
  unfold Lg.free at hf
  have hs := store_good h.good (o := l.act * d.half + 32 + l.fin) (x := wEnc l.gen l.fin x) (by omega) (by omega)
  have e : appM d l x = ⟨onB d (overL d.dur (l.act * d.half + 32 + l.fin).toNat (wEnc l.gen l.fin x)), ⟨l.act, l.gen, l.recs ++ [wRow x], l.fin + x.length + 10, false⟩, 0⟩ := by
    unfold appM
    rw [if_neg (by rw [h.failed]; simp), if_neg (by simp [hE]), if_neg (by unfold Lg.free; omega), hs, if_pos rfl]
  have hol : (overL d.dur (l.act * d.half + 32 + l.fin).toNat (wEnc l.gen l.fin x)).length = d.dur.length := overL_len (by omega)
  have hh := onB_half hol
  have hx1 := recE_of hE
  have hrec := h.lg.recs
  refine ⟨e, ?_, by rw [e]; exact hh⟩
  rw [e]
  refine ⟨onB_good h.good hol (okB_over h.good.ok.bd (wEnc_okB _ _ hx) _), ⟨h.lg.act, h.lg.gen, ?_, ?_, ?_⟩, rfl, ?_, ?_, ?_⟩
  · rw [hh]; exact h.lg.half
  · rw [hh]
    show 0 ≤ l.fin + x.length + 10 ∧ l.fin + x.length + 10 ≤ d.half - 32
    omega
  · show ((l.recs ++ [wRow x]).length : Int) ≤ l.fin + x.length + 10
    simp; omega
  · show l.fin + x.length + 10 = recsN (l.recs ++ [wRow x])
    rw [recsN_app, h.fin]
    simp [recsN, nl_wRow]; omega
  · intro r hr
    rcases List.mem_append.mp hr with hr | hr
    · exact h.recs r hr
    · rw [List.mem_singleton.mp hr]; exact hx
  · show Go.Proofs.Ytpafnokcmhlbgaa.recsE (l.recs ++ [wRow x]) = 0
    rw [recsE_app h.recsE]
    simp [Go.Proofs.Ytpafnokcmhlbgaa.recsE, nl_wRow, hE]

theorem live_new (n : Int) (h : 4 ≤ n) : Live (openM (newDk n)).d (openM (newDk n)).l ∧ (openM (newDk n)).d.dur.length = secN n ∧ (openM (newDk n)).d.half = (secN n / 32 / 2 * 32 : Nat) := by
  obtain ⟨h1, h2, h3, h4⟩ := secN_of n
  have h128 : 128 ≤ secN n := by
    have : (if (if 2048 < n then 2048 else n) > 1 then (if 2048 < n then 2048 else n) else 1) ≥ 4 := by (repeat' split) <;> omega
    omega
  rw [open_new n h]
  have hl : (newDk n).dur.length = secN n := List.length_replicate ..
  have hll : (wHdr 1 ++ Z (secN n - 32)).length = secN n := by rw [List.length_append, wHdr_len, List.length_replicate]; omega
  have hh : (onB (newDk n) (wHdr 1 ++ Z (secN n - 32))).half = (secN n / 32 / 2 * 32 : Nat) := by
    unfold Dk.half
    show (((wHdr 1 ++ Z (secN n - 32)).length / 32 / 2 * 32 : Nat) : Int) = _
    rw [hll]
  refine ⟨⟨onB_good (new_good n) (by rw [hll, hl]) (okB_app (wHdr_okB 1) (okB_rep _)), ⟨by show (0 : Int) ≤ 0 ∧ (0 : Int) ≤ 1; omega, by show (0 : Int) ≤ 1 ∧ (1 : Int) < _; omega, ?_, ?_, by show ((0 : Nat) : Int) ≤ 0; omega⟩, rfl, rfl, (fun r hr => by cases hr), rfl⟩, hll, hh⟩
  · rw [hh]; omega
  · rw [hh]
    show (0 : Int) ≤ 0 ∧ (0 : Int) ≤ _
    omega

end Go.Proofs.Ytpafnokcmhlbgaa

namespace Go.Proofs.Ytpafnokcmhlbgaa

open Go.Abs

theorem sub_at (a b c : List (List Cell)) {i j : Nat} (hi : i = a.length) (hj : j = a.length + b.length) : subL (a ++ (b ++ c)) i j = b := by
  subst hi hj
  exact sub_mid a b c

theorem recB_enc {g o : Int} {x rest : List (List Cell)} (h1 : 1 ≤ x.length) (h2 : x.length ≤ 30000) : recB g o (wEnc g o x ++ rest) = (x, true) := by
  have hl := wEnc_len g o x
  have b1 := bigF_len 4 (x.length : Int)
  have b2 := bigF_len 4 (wSum g o x)
  have hw := wSum_range g o x
  have e0 : wEnc g o x ++ rest = [Cell.int .u8 229] :: (bigF 4 x.length ++ (x ++ (bigF 4 (wSum g o x) ++ ([[.int .u8 255]] ++ rest)))) := by simp [wEnc]
  have e1 : wNum (wEnc g o x ++ rest) 1 5 = x.length := by
    unfold wNum
    rw [e0]
    have := sub_at [[Cell.int .u8 229]] (bigF 4 x.length) (x ++ (bigF 4 (wSum g o x) ++ ([[.int .u8 255]] ++ rest))) (i := 1) (j := 5) rfl (by rw [b1]; rfl)
    rw [List.singleton_append] at this
    rw [this, numF_big 4 0 _ (by omega) (by rw [show (256 : Int) ^ 4 = 4294967296 by decide]; omega)]
    omega
  have e2 : subL (wEnc g o x ++ rest) 5 (5 + x.length) = x := by
    rw [e0]
    have := sub_at ([Cell.int .u8 229] :: bigF 4 x.length) x (bigF 4 (wSum g o x) ++ ([[.int .u8 255]] ++ rest)) (i := 5) (j := 5 + x.length) (by rw [List.length_cons, b1]) (by rw [List.length_cons, b1])
    rwa [List.cons_append] at this
  have e3 : wNum (wEnc g o x ++ rest) (5 + x.length) (9 + x.length) = wSum g o x := by
    unfold wNum
    rw [e0]
    have := sub_at ([Cell.int .u8 229] :: (bigF 4 x.length ++ x)) (bigF 4 (wSum g o x)) ([[.int .u8 255]] ++ rest) (i := 5 + x.length) (j := 9 + x.length) (by rw [List.length_cons, List.length_append, b1]; omega) (by rw [List.length_cons, List.length_append, b1, b2]; omega)
    rw [List.cons_append, List.append_assoc] at this
    rw [this, numF_big 4 0 _ hw.1 (by rw [show (256 : Int) ^ 4 = 4294967296 by decide]; exact hw.2)]
    omega
  have e4 : Abs.rowAt (wEnc g o x ++ rest) (9 + x.length) = [.int .u8 255] := by
    have hlt : 9 + x.length < (wEnc g o x ++ rest).length := by rw [List.length_append, hl]; omega
    have hd := drop_cons (wEnc g o x ++ rest) (9 + x.length) hlt
    have e5 : wEnc g o x ++ rest = ([Cell.int .u8 229] :: (bigF 4 x.length ++ (x ++ bigF 4 (wSum g o x)))) ++ ([.int .u8 255] :: rest) := by simp [wEnc]
    have e6 : (wEnc g o x ++ rest).drop (9 + x.length) = [.int .u8 255] :: rest := by
      rw [e5, List.drop_append, List.drop_eq_nil_of_le (by simp [b1, b2]; omega), List.nil_append]
      have : 9 + x.length - ([Cell.int .u8 229] :: (bigF 4 x.length ++ (x ++ bigF 4 (wSum g o x)))).length = 0 := by simp [b1, b2]; omega
      rw [this]; rfl
    rw [hd] at e6
    exact (List.cons.inj e6).1
  have e7 : nr (Abs.rowAt (wEnc g o x ++ rest) 0) 0 = 229 := by rw [e0]; rfl
  have hle : (wEnc g o x ++ rest).length = x.length + 10 + rest.length := by rw [List.length_append, hl]
  unfold recB
  rw [if_neg (by rw [e7, hle]; omega), e1, if_neg (by rw [hle]; omega), Int.toNat_natCast, e2, e3, e4, decide_eq_true rfl, decide_eq_true (show nr [Cell.int .u8 255] 0 = 255 from rfl)]
  rfl

theorem scan_enc {g : Int} : ∀ (rs : List (List Cell)) {o : Int} {rest : List (List Cell)} (k : Nat), recsE rs = 0 → (∀ r ∈ rs, okB (nl r 0) = true) → okB rest = true → (encW g o rs ++ rest).length ≤ k →
    scanF k g o (encW g o rs ++ rest) = (cloneR rs ++ (scanF rest.length g (o + recsN rs) rest).1, (scanF rest.length g (o + recsN rs) rest).2)
  | [], o, rest, k, _, _, hr, hk => by
    simp only [encW, recsN, cloneR, List.nil_append, Int.add_zero] at hk ⊢
    rw [scanF_fuel hr rest.length k (Nat.le_refl _) hk]
  | r :: rs, o, rest, k, hE, hb, hr, hk => by
    have hx := recsE_mem hE r List.mem_cons_self
    have hE' : recsE rs = 0 := by
      simp only [recsE] at hE
      split at hE
      · contradiction
      · exact hE
    have hbx := hb r List.mem_cons_self
    have hb' : ∀ s ∈ rs, okB (nl s 0) = true := fun s hs => hb s (List.mem_cons_of_mem _ hs)
    have hwl := wEnc_len g o (nl r 0)
    have e0 : encW g o (r :: rs) ++ rest = wEnc g o (nl r 0) ++ (encW g (o + (nl r 0).length + 10) rs ++ rest) := by simp [encW]
    rw [e0] at hk ⊢
    cases k with
    | zero => rw [List.length_append] at hk; omega
    | succ k =>
      rw [scanF, recB_enc hx.1 hx.2, if_pos rfl]
      dsimp only
      have hd : (wEnc g o (nl r 0) ++ (encW g (o + (nl r 0).length + 10) rs ++ rest)).drop ((nl r 0).length + 10) = encW g (o + (nl r 0).length + 10) rs ++ rest := by
        rw [List.drop_append, List.drop_eq_nil_of_le (by omega), hwl]
        simp
      rw [hd, scan_enc rs k hE' hb' hr (by rw [List.length_append] at hk; omega)]
      have e1 : o + ((nl r 0).length : Int) + 10 + recsN rs = o + recsN (r :: rs) := by simp only [recsN]; omega
      rw [e1]
      rfl

theorem scan_enc0 {g : Int} {rs rest : List (List Cell)} (hE : recsE rs = 0) (hb : ∀ r ∈ rs, okB (nl r 0) = true) (hr : okB rest = true) (hz : (recB g (recsN rs) rest).2 = false) : wScan g (encW g 0 rs ++ rest) = (cloneR rs, recsN rs) := by
  unfold wScan
  rw [scan_enc rs _ hE hb hr (Nat.le_refl _), Int.zero_add, scan_no _ hz, List.append_nil]

structure Inv (d : Dk) (l : Lg) : Prop where
  live : Live d l
  act : l.act = 0
  gen : l.gen = 1
  dur : d.dur = wHdr 1 ++ (encW 1 0 l.recs ++ Z (d.dur.length - 32 - l.fin.toNat))

theorem inv_new (n : Int) (h : 4 ≤ n) : Inv (openM (newDk n)).d (openM (newDk n)).l := by
  have hl := live_new n h
  refine ⟨hl.1, by rw [open_new n h], by rw [open_new n h], ?_⟩
  rw [hl.2.1, open_new n h]
  rfl

theorem inv_app {d : Dk} {l : Lg} (h : Inv d l) {x : List (List Cell)} (hx : okB x = true) (hE : recE x = 0) (hf : (x.length : Int) + 10 ≤ l.free d) :
    (appM d l x).e = 0 ∧ Inv (appM d l x).d (appM d l x).l ∧ (appM d l x).l.recs = l.recs ++ [wRow x] ∧ (appM d l x).l.fin = l.fin + x.length + 10 ∧ (appM d l x).d.dur.length = d.dur.length ∧ (appM d l x).d.half = d.half := by
  obtain ⟨e, hl, hh⟩ := app_fits h.live hx hE hf
  have hfin := h.live.lg.fin
  have hfn := h.live.fin
  have hhl := half_of h.live.good.ok
  have hwl := wEnc_len 1 l.fin x
  have hen := encW_len 1 l.recs 0
  unfold Lg.free at hf
  have hod : (appM d l x).d.dur = wHdr 1 ++ (encW 1 0 l.recs ++ (wEnc 1 l.fin x ++ Z (d.dur.length - 32 - l.fin.toNat - (x.length + 10)))) := by
    rw [e, h.act, h.gen]
    show overL d.dur (0 * d.half + 32 + l.fin).toNat (wEnc 1 l.fin x) = _
    have ho : (0 * d.half + 32 + l.fin).toNat = (wHdr 1 ++ encW 1 0 l.recs).length := by rw [List.length_append, wHdr_len]; omega
    have hz : Z (d.dur.length - 32 - l.fin.toNat) = Z (x.length + 10) ++ Z (d.dur.length - 32 - l.fin.toNat - (x.length + 10)) := by
      rw [List.replicate_append_replicate]
      congr 1; omega
    rw [ho]
    conv => lhs; rw [h.dur]
    rw [hz, ← List.append_assoc, over_mid _ _ _ _ (by rw [hwl, List.length_replicate]), List.append_assoc]
  have hdl : (appM d l x).d.dur.length = d.dur.length := by
    rw [hod]
    simp only [List.length_append, List.length_replicate, wHdr_len, hwl]
    omega
  refine ⟨by rw [e], ⟨hl, by rw [e]; exact h.act, by rw [e]; exact h.gen, ?_⟩, by rw [e], by rw [e], hdl, hh⟩
  rw [hdl]
  have er : (appM d l x).l.recs = l.recs ++ [wRow x] := by rw [e]
  have ef : (appM d l x).l.fin = l.fin + x.length + 10 := by rw [e]
  rw [hod, er, ef, encW_app]
  have e1 : encW 1 (0 + recsN l.recs) [wRow x] = wEnc 1 l.fin x := by simp [encW, nl_wRow, hfn]
  have e2 : d.dur.length - 32 - l.fin.toNat - (x.length + 10) = d.dur.length - 32 - (l.fin + x.length + 10).toNat := by omega
  rw [e1, e2, List.append_assoc]

theorem sub_app (a b : List (List Cell)) {i j k : Nat} (hk : k = a.length) (h : k ≤ i) : subL (a ++ b) i j = subL b (i - k) (j - k) := by
  subst hk
  rw [subL_eq, subL_eq, List.take_append, List.drop_append, List.drop_eq_nil_of_le (by rw [List.length_take]; omega), List.nil_append]
  rw [List.length_take]
  by_cases hj : j ≤ a.length
  · rw [show j - a.length = 0 by omega]; simp
  · rw [show min j a.length = a.length by omega]

theorem open_one {d : Dk} (hg : Good d) (h128 : 128 ≤ d.dur.length) {y : List (List Cell)} (hd : d.dur = wHdr 1 ++ y) (h1 : d.gen 1 = 0) :
    openM d = openT d 0 1 (subL y 0 (d.half - 32).toNat) := by
  have hh := half_of hg.ok
  have h64 := hh.2.2.2 h128
  have g0 : d.gen 0 = 1 := by
    unfold Dk.gen
    rw [hg.cur, hd, Int.zero_mul]
    have := sub_at [] (wHdr 1) y (i := (0 : Int).toNat) (j := ((0 : Int) + 32).toNat) rfl (by rw [wHdr_len]; rfl)
    rw [List.nil_append] at this
    rw [this, wGen_hdr (by omega) (by omega)]
  have a0 : d.area 0 = subL y 0 (d.half - 32).toNat := by
    unfold Dk.area
    rw [hg.cur, hd, sub_app _ _ (wHdr_len 1).symm (by omega)]
    have e1 : (0 * d.half + 32).toNat - 32 = 0 := by omega
    have e2 : ((0 + 1) * d.half).toNat - 32 = (d.half - 32).toNat := by omega
    rw [e1, e2]
  unfold openM
  rw [if_neg (by omega), if_neg (by rw [hg.down]; simp), if_neg (by omega), if_neg (by omega), g0, a0]

theorem sub_take (a b : List (List Cell)) {j : Nat} (h : a.length ≤ j) : subL (a ++ b) 0 j = a ++ subL b 0 (j - a.length) := by
  rw [subL_eq, subL_eq, List.take_append, List.take_of_length_le h]
  simp

theorem gen1_zero {d : Dk} (hg : Good d) (h128 : 128 ≤ d.dur.length) {x : List (List Cell)} {k : Nat} (hd : d.dur = x ++ Z k) (hx : (x.length : Int) ≤ d.half) : d.gen 1 = 0 := by
  have hh := half_of hg.ok
  have h64 := hh.2.2.2 h128
  have hl : d.dur.length = x.length + k := by rw [hd, List.length_append, List.length_replicate]
  unfold Dk.gen
  rw [hg.cur, hd, sub_app _ _ rfl (by omega), subL_zero (by omega)]
  exact wGen_zero (by omega)

theorem inv_open {d : Dk} {l : Lg} (h : Inv d l) : openM d = ⟨d, ⟨0, 1, cloneR l.recs, l.fin, false⟩, 0⟩ := by
  have hg := h.live.good
  have hh := half_of hg.ok
  have h64 := h.live.lg.half
  have hfin := h.live.lg.fin
  have hfn := h.live.fin
  have hen := encW_len 1 l.recs 0
  have h1 : d.gen 1 = 0 := by
    refine gen1_zero hg (by omega) (x := wHdr 1 ++ encW 1 0 l.recs) (k := d.dur.length - 32 - l.fin.toNat) ?_ ?_
    · rw [List.append_assoc]; exact h.dur
    · rw [List.length_append, wHdr_len]; omega
  rw [open_one hg (by omega) h.dur h1, sub_take _ _ (by omega), subL_zero (by omega)]
  unfold openT
  rw [scan_enc0 h.live.recsE h.live.recs (okB_rep _) (by rw [recB_zero]), if_pos]
  · rw [hfn]
  · show zeroB ((encW 1 0 l.recs ++ Z ((d.half - 32).toNat - (encW 1 0 l.recs).length - 0)).drop (recsN l.recs).toNat) = true
    rw [List.drop_append, List.drop_eq_nil_of_le (by omega), List.nil_append, List.drop_replicate]
    exact zeroB_zero _

theorem crash_good {d : Dk} (h : Good d) (k t : Int) : d.crash k t = ⟨d.dur, d.dur, [], false, 0, false⟩ := by
  have e : crashB d k t = d.dur := by
    unfold crashB
    rw [h.q]
    have : keepN k ([] : List (List Cell)).length = 0 := by have := (keepN_of k ([] : List (List Cell)).length).1; simp at this; exact this
    rw [this, if_neg (by simp)]
    rfl
  unfold Dk.crash
  rw [e]

theorem inv_crash {d : Dk} {l : Lg} (h : Inv d l) (k t : Int) : Inv (d.crash k t) l := by
  have hc := crash_good h.live.good k t
  have hk := crash_kept h.live.good.ok k t
  rw [hc] at hk ⊢
  exact ⟨⟨⟨hk.ok, rfl, rfl, rfl, rfl⟩, kept_lg h.live.lg hk, h.live.failed, h.live.fin, h.live.recs, h.live.recsE⟩, h.act, h.gen, h.dur⟩

theorem nl_clone {rs : List (List Cell)} : ∀ r ∈ cloneR rs, ∃ s ∈ rs, r = wRow (nl s 0) := by
  induction rs with
  | nil => intro r hr; cases hr
  | cons s rs ih =>
    intro r hr
    rcases List.mem_cons.mp hr with rfl | hr
    · exact ⟨s, List.mem_cons_self, rfl⟩
    · obtain ⟨t, ht, e⟩ := ih r hr
      exact ⟨t, List.mem_cons_of_mem _ ht, e⟩

theorem recsE_clone (rs : List (List Cell)) : recsE (cloneR rs) = recsE rs := by
  induction rs with
  | nil => rfl
  | cons r rs ih => simp only [cloneR, recsE, nl_wRow, ih]

theorem recsN_clone (rs : List (List Cell)) : recsN (cloneR rs) = recsN rs := by
  induction rs with
  | nil => rfl
  | cons r rs ih => simp only [cloneR, recsN, nl_wRow, ih]

theorem encW_clone (g : Int) (rs : List (List Cell)) : ∀ o, encW g o (cloneR rs) = encW g o rs := by
  induction rs with
  | nil => intro o; rfl
  | cons r rs ih => intro o; simp only [cloneR, encW, nl_wRow, ih]

theorem clone_okB {rs : List (List Cell)} (h : ∀ r ∈ rs, okB (nl r 0) = true) : ∀ r ∈ cloneR rs, okB (nl r 0) = true := fun r hr => by
  obtain ⟨s, hs, e⟩ := nl_clone r hr
  rw [e, nl_wRow]
  exact h s hs

theorem inv_again {d : Dk} {l : Lg} (h : Inv d l) : Inv d ⟨0, 1, cloneR l.recs, l.fin, false⟩ := by
  refine ⟨⟨h.live.good, ⟨by show (0 : Int) ≤ 0 ∧ (0 : Int) ≤ 1; omega, by show (0 : Int) ≤ 1 ∧ (1 : Int) < _; omega, h.live.lg.half, h.live.lg.fin, ?_⟩, rfl, ?_, clone_okB h.live.recs, ?_⟩, rfl, rfl, ?_⟩
  · show ((cloneR l.recs).length : Int) ≤ l.fin
    rw [cloneR_len]; exact h.live.lg.recs
  · show l.fin = recsN (cloneR l.recs)
    rw [recsN_clone]; exact h.live.fin
  · show recsE (cloneR l.recs) = 0
    rw [recsE_clone]; exact h.live.recsE
  · show d.dur = wHdr 1 ++ (encW 1 0 (cloneR l.recs) ++ Z (d.dur.length - 32 - l.fin.toNat))
    rw [encW_clone]; exact h.dur

theorem sameF_self : ∀ (a : List (List Cell)), sameF (cloneR a) a = true
  | [] => rfl
  | r :: a => by
    have e : Abs.rowAt (r :: a) 0 = r := rfl
    simp [cloneR, sameF, nl_wRow, e, sameF_self a]

theorem sameR_clone (a : List (List Cell)) : sameR (cloneR a) a = true := by
  unfold sameR
  rw [sameF_self, cloneR_len]
  simp

theorem rep_fits {d : Dk} {l : Lg} (h : Live d l) {rs : List (List Cell)} (hb : ∀ r ∈ rs, okB (nl r 0) = true) (hE : recsE rs = 0) (hf : recsN rs ≤ d.half - 32) (hg : l.gen + 1 < 18446744073709551615) :
    (repM d l rs).e = 0 ∧ Live (repM d l rs).d (repM d l rs).l ∧ (repM d l rs).l.recs = cloneR rs ∧ (repM d l rs).l.fin = recsN rs ∧ (repM d l rs).l.gen = l.gen + 1 ∧ (repM d l rs).d.half = d.half ∧ (repM d l rs).d.dur.length = d.dur.length := by
  have hact := h.lg.act
  have hgen := h.lg.gen
  have hsg := seg_half h.good.ok (s := 1 - l.act) (by omega)
  have h64 := h.lg.half
  have hnn := recsN_nn rs
  have hel := encW_len (l.gen + 1) rs 0
  have eB : (repB d l rs).length = (d.half - 32).toNat := by
    unfold repB
    rw [List.length_append, zeros_len]; omega
  have eBb : okB (repB d l rs) = true := okB_app (encW_okB _ _ _ hb) (zeros_okB _)
  have s1 := store_good h.good (o := (1 - l.act) * d.half + 32) (x := repB d l rs) (by omega) (by omega)
  have hol : (overL d.dur ((1 - l.act) * d.half + 32).toNat (repB d l rs)).length = d.dur.length := overL_len (by omega)
  have hD : repD d l rs = ⟨onB d (overL d.dur ((1 - l.act) * d.half + 32).toNat (repB d l rs)), 0⟩ := s1
  have hG := onB_good h.good hol (okB_over h.good.ok.bd eBb _)
  have hwl := wHdr_len (l.gen + 1)
  have s2 := store_good hG (o := (1 - l.act) * d.half) (x := wHdr (l.gen + 1)) (by omega) (by rw [hwl]; show _ ≤ ((overL d.dur ((1 - l.act) * d.half + 32).toNat (repB d l rs)).length : Int); rw [hol]; omega)
  have hH : ∃ b, repH d l rs = ⟨onB d b, 0⟩ ∧ b.length = d.dur.length ∧ okB b = true := by
    unfold repH
    rw [hD]
    exact ⟨_, s2, by rw [overL_len (by rw [hwl]; show _ ≤ (overL d.dur ((1 - l.act) * d.half + 32).toNat (repB d l rs)).length; rw [hol]; omega)]; exact hol, okB_over hG.ok.bd (wHdr_okB _) _⟩
  obtain ⟨b, hH, hbl, hbb⟩ := hH
  have e : repM d l rs = ⟨onB d b, ⟨1 - l.act, l.gen + 1, cloneR rs, recsN rs, false⟩, 0⟩ := by
    unfold repM
    rw [if_neg (by rw [h.failed]; simp), if_neg (by simp [hE]), if_neg (by omega), if_neg (by rw [hD]; simp), if_neg (by rw [hH]; simp), hH]
  have hh := onB_half (d := d) hbl
  rw [e]
  refine ⟨rfl, ⟨onB_good h.good hbl hbb, ⟨by show 0 ≤ 1 - l.act ∧ 1 - l.act ≤ 1; omega, by show 0 ≤ l.gen + 1 ∧ l.gen + 1 < _; omega, by rw [hh]; exact h64, by rw [hh]; show 0 ≤ recsN rs ∧ recsN rs ≤ d.half - 32; omega, by show ((cloneR rs).length : Int) ≤ recsN rs; rw [cloneR_len]; exact hnn.2⟩, rfl, (recsN_clone rs).symm, clone_okB hb, by show recsE (cloneR rs) = 0; rw [recsE_clone]; exact hE⟩, rfl, rfl, rfl, hh, hbl⟩

theorem Live.okDk {d : Dk} {l : Lg} (h : Live d l) {n : Nat} (hn : d.dur.length = n) : okDk n n d = true := okDk_mk hn.symm (by rw [h.good.cur]; exact hn.symm) h.good.ok

theorem Live.okLg {d : Dk} {l : Lg} (h : Live d l) : okLg d l = true := okLg_mk h.lg

theorem Live.okAp {d : Dk} {l : Lg} (h : Live d l) {x : List (List Cell)} (hx : okB x = true) : okAp d x = true := okAp_mk hx (by rw [h.good.q]; simp)

theorem Live.okRp {d : Dk} {l : Lg} (h : Live d l) {x : List (List Cell)} (hx : okRl x = true) : okRp d x = true := okRp_mk hx (by rw [h.good.q]; simp)

end Go.Proofs.Ytpafnokcmhlbgaa

namespace Go.Proofs.Ytpafnokcmhlbgaa

open Go.Abs

set_option maxRecDepth 20000

end Go.Proofs.Ytpafnokcmhlbgaa

namespace Go.Proofs.Ytpafnokcmhlbgaa

open Go.Abs

theorem beq_t {a b : Int} (h : a = b) : (a == b) = true := by simp [h]

theorem bne_f {a b : Int} (h : a = b) : (a != b) = false := by simp [h]

theorem secN8 : secN 8 = 256 := by decide

theorem new_guard {n : Int} (h : 4 ≤ n) : (okDk (secN n) (secN n) (newDk n) && (pd ((Dk.q (newDk n)).length ≤ 1000000) && ((Lr.e (openM (newDk n))) == 0))) = true := by
  refine and_mk (okDk_mk ?_ ?_ (new_ok n)) (and_mk (pd_t (by show 0 ≤ 1000000; omega)) (by rw [open_new n h]; rfl))
  · exact (List.length_replicate ..).symm
  · exact (List.length_replicate ..).symm

theorem byte_ok (i : Int) : okB [[.int .u8 (IntKind.wrap .u8 i)]] = true := by
  rw [wrapu8_eq]
  simp only [okB, List.all_cons, List.all_nil, isByte, Bool.and_true, Bool.and_eq_true, decide_eq_true_eq]
  omega

theorem mkF_of : ∀ (n : Nat) (i k : Int) (r : List (List Cell)), (∀ q ∈ r, okB (nl q 0) = true) → (∀ s ∈ mkF n i k r, okB (nl s 0) = true ∧ 1 ≤ (nl s 0).length ∧ (nl s 0).length ≤ 41 ∧ s = wRow (nl s 0)) ∧ (mkF n i k r).length ≤ (k - i).toNat
  | 0, i, k, r, _ => by
    refine ⟨fun s hs => ?_, ?_⟩
    · simp [mkF] at hs
    · simp [mkF]
  | n + 1, i, k, [], _ => by
    refine ⟨fun s hs => ?_, ?_⟩
    · simp [mkF] at hs
    · simp [mkF]
  | n + 1, i, k, r :: rs, h => by
    have ih := mkF_of n (i + 1) k rs fun q hq => h q (List.mem_cons_of_mem _ hq)
    rw [mkF]
    split
    · rename_i hik
      refine ⟨fun s hs => ?_, ?_⟩
      · rcases List.mem_cons.mp hs with rfl | hs
        · rw [nl_wRow]
          refine ⟨okB_app (okB_take (h r List.mem_cons_self) _) (byte_ok i), ?_, ?_, rfl⟩
          · simp
          · simp; omega
        · exact ih.1 s hs
      · have := ih.2
        simp only [List.length_cons]
        omega
    · exact ⟨fun s hs => (by cases hs), by simp⟩

theorem mkRs_of {r : List (List Cell)} (h : ∀ q ∈ r, okB (nl q 0) = true) (k : Int) : (∀ s ∈ mkRs r k, okB (nl s 0) = true ∧ 1 ≤ (nl s 0).length ∧ (nl s 0).length ≤ 41 ∧ s = wRow (nl s 0)) ∧ (mkRs r k).length ≤ k.toNat := by
  have := mkF_of r.length 0 k r h
  rw [Int.sub_zero] at this
  exact this

theorem okArg_of {r : List (List Cell)} (h : okArg r = true) : r.length ≤ 9223372036854775807 ∧ ∀ q ∈ r, okB (nl q 0) = true := by
  unfold okArg at h
  simp only [Bool.and_eq_true, List.all_eq_true] at h
  exact ⟨pd_of h.1, h.2⟩

theorem k26 : runF E (callOf L18) 1 26 [] [] = some ([.one (.bool true)], []) := by
  rw [e26]
  dsimp only
  have hi := inv_new 8 (by omega)
  have hl := live_new 8 (by omega)
  rw [secN8] at hl
  have hh0 : (openM (newDk 8)).d.half = 128 := hl.2.2
  have hn0 := hl.2.1
  have hr0 : (openM (newDk 8)).l.recs = [] := by rw [open_new 8 (by omega)]
  have hf0 : (openM (newDk 8)).l.fin = 0 := by rw [open_new 8 (by omega)]
  refine ct (new_guard (by omega)) ?_
  rw [secN8]
  generalize (openM (newDk 8)).d = d0 at *
  generalize (openM (newDk 8)).l = l0 at *
  have hx : okB [[Cell.int .u8 48], [Cell.int .u8 49], [Cell.int .u8 50], [Cell.int .u8 51], [Cell.int .u8 52], [Cell.int .u8 53], [Cell.int .u8 54], [Cell.int .u8 55], [Cell.int .u8 56], [Cell.int .u8 57]] = true := by decide
  have hxE : recE [[Cell.int .u8 48], [Cell.int .u8 49], [Cell.int .u8 50], [Cell.int .u8 51], [Cell.int .u8 52], [Cell.int .u8 53], [Cell.int .u8 54], [Cell.int .u8 55], [Cell.int .u8 56], [Cell.int .u8 57]] = 0 := by decide
  have hxl : [[Cell.int .u8 48], [Cell.int .u8 49], [Cell.int .u8 50], [Cell.int .u8 51], [Cell.int .u8 52], [Cell.int .u8 53], [Cell.int .u8 54], [Cell.int .u8 55], [Cell.int .u8 56], [Cell.int .u8 57]].length = 10 := rfl
  generalize [[Cell.int .u8 48], [Cell.int .u8 49], [Cell.int .u8 50], [Cell.int .u8 51], [Cell.int .u8 52], [Cell.int .u8 53], [Cell.int .u8 54], [Cell.int .u8 55], [Cell.int .u8 56], [Cell.int .u8 57]] = x at *
  refine ct (and_mk (and_mk (hi.live.okDk hn0) hi.live.okLg) (hi.live.okAp hx)) ?_
  obtain ⟨a1, a2, a3, a4, a5, a6⟩ := inv_app hi hx hxE (by unfold Lg.free; omega)
  generalize appM d0 l0 x = z1 at *
  refine cf (bne_f a1) (ct (and_mk (a2.live.okDk (by omega)) a2.live.okLg) ?_)
  refine cf (bne_f (by unfold Lg.free; omega)) (ct (a2.live.okDk (by omega)) ?_)
  have hc := inv_crash a2 0 0
  have hcl : (z1.d.crash 0 0).dur.length = 256 := by rw [crash_good a2.live.good]; show z1.d.dur.length = 256; omega
  have ho := inv_open hc
  have hc2 := inv_again hc
  rw [ho]
  dsimp only
  generalize z1.d.crash 0 0 = d2 at *
  refine ct (and_mk (hc.live.okDk hcl) (and_mk (pd_t (by rw [hc.live.good.q]; simp)) rfl)) ?_
  have hrl : okRl [[Cell.slice 5 [[Cell.int .u8 1]]], [Cell.slice 5 [[Cell.int .u8 2], [Cell.int .u8 3]]]] = true := okRl_mk (by simp) (by decide)
  refine ct (and_mk (and_mk (hc.live.okDk hcl) hc2.live.okLg) (hc.live.okRp hrl)) ?_
  have hh2 : d2.half = 128 := by unfold Dk.half; rw [hcl]; rfl
  obtain ⟨b1, b2, b3, b4, b5, b6, b7⟩ := rep_fits hc2.live (rs := [[Cell.slice 5 [[Cell.int .u8 1]]], [Cell.slice 5 [[Cell.int .u8 2], [Cell.int .u8 3]]]]) (by decide) (by decide) (by rw [hh2]; decide) (by show (1 : Int) + 1 < _; omega)
  generalize repM d2 ⟨0, 1, cloneR z1.l.recs, z1.l.fin, false⟩ [[Cell.slice 5 [[Cell.int .u8 1]]], [Cell.slice 5 [[Cell.int .u8 2], [Cell.int .u8 3]]]] = z2 at *
  refine cf (bne_f b1) (ct b2.okRs ?_)
  rw [b3]
  refine ct rfl (ct rfl (ct (by decide) (ct (beq_t b5) (ct (and_mk (and_mk (b2.okDk (by omega)) b2.okLg) (b2.okAp rfl)) ?_))))
  have e : appM z2.d z2.l [] = ⟨z2.d, z2.l, 2⟩ := by unfold appM; rw [if_neg (by rw [b2.failed]; simp)]; rfl
  rw [e]
  refine ct rfl (ct a2.live.okRs ?_)
  rw [a3, hr0]
  rfl

theorem gIndex_of {n k : Int} (hk : 1 ≤ k) : 0 ≤ gIndex n k ∧ gIndex n k < k := by
  unfold gIndex
  rw [if_neg (by omega)]
  exact ⟨Int.emod_nonneg _ (by omega), Int.emod_lt_of_pos _ (by omega)⟩

end Go.Proofs.Ytpafnokcmhlbgaa

namespace Go.Proofs.Ytpafnokcmhlbgaa

open Go.Abs

theorem wrap32 {n : Int} (h0 : 0 ≤ n) (h : n < 4294967296) : IntKind.wrap .u32 n = n := by
  have h1 : (2 : Int) ^ IntKind.u32.bits = 4294967296 := by decide
  have e : IntKind.u32.wrap n = if (IntKind.u32.signed && decide (n % 2 ^ IntKind.u32.bits ≥ 2 ^ (IntKind.u32.bits - 1))) = true then n % 2 ^ IntKind.u32.bits - 2 ^ IntKind.u32.bits else n % 2 ^ IntKind.u32.bits := rfl
  rw [e, h1]
  simp [IntKind.signed]
  omega

theorem xor_eq (a b : Int) : xorI .u32 a b = ((BitVec.ofInt 32 a ^^^ BitVec.ofInt 32 b).toNat : Int) := by
  have hlt := (BitVec.ofInt 32 a ^^^ BitVec.ofInt 32 b).isLt
  unfold xorI
  exact wrap32 (Int.natCast_nonneg _) (Int.ofNat_lt.mpr hlt)

theorem xor_comm32 (a b : Int) : xorI .u32 a b = xorI .u32 b a := by rw [xor_eq, xor_eq, BitVec.xor_comm]

theorem and_one32 {u : Int} (h0 : 0 ≤ u) (h1 : u < 4294967296) : andI .u32 u 1 = u % 2 := by
  unfold andI
  have hb : IntKind.u32.bits = 32 := rfl
  obtain ⟨n, rfl⟩ := Int.eq_ofNat_of_zero_le h0
  have hn : n < 2 ^ 32 := by omega
  have e : BitVec.ofInt 32 1 = 1#32 := by decide
  have e1 : (1#32).toNat = 1 := by decide
  rw [hb, e, BitVec.ofInt_natCast, BitVec.toNat_and, BitVec.toNat_ofNat, Nat.mod_eq_of_lt hn, e1, Nat.and_one_is_mod, wrap32 (by omega) (by omega)]
  omega

theorem shr1_32 (u : Int) : shrI .u32 u 1 = u / 2 := by
  unfold shrI
  have e : (min (1 : Int).toNat IntKind.u32.bits) = 1 := by decide
  rw [e, Int.fdiv_eq_ediv_of_nonneg]
  · rfl
  · decide

theorem crcBit_eq {c : Int} (h0 : 0 ≤ c) (h1 : c < 4294967296) : crcBit c = if c % 2 = 0 then c / 2 else xorI .u32 (c / 2) 2197175160 := by
  unfold crcBit
  rw [and_one32 h0 h1, shr1_32]
  by_cases h : c % 2 = 0
  · rw [if_pos h, h]; rfl
  · rw [if_neg h, show c % 2 = 1 by omega]; rfl

theorem crcBit_range {c : Int} (h0 : 0 ≤ c) (h1 : c < 4294967296) : 0 ≤ crcBit c ∧ crcBit c < 4294967296 := by
  rw [crcBit_eq h0 h1]
  split
  · omega
  · exact xor_u32 _ _

theorem crcBits_range : ∀ (k : Nat) {c : Int}, 0 ≤ c → c < 4294967296 → 0 ≤ crcBits k c ∧ crcBits k c < 4294967296
  | 0, _, h0, h1 => ⟨h0, h1⟩
  | k + 1, _, h0, h1 => crcBits_range k (crcBit_range h0 h1).1 (crcBit_range h0 h1).2

theorem recB_raw {g o : Int} {x t rest : List (List Cell)} {e : List Cell} (h1 : 1 ≤ x.length) (h2 : x.length ≤ 30000) (ht : t.length = 4) :
    recB g o ([.int .u8 229] :: (bigF 4 x.length ++ (x ++ (t ++ (e :: rest))))) = (x, decide (numF 0 t = wSum g o x) && decide (nr e 0 = 255)) := by
  have b1 := bigF_len 4 (x.length : Int)
  generalize hb : ([Cell.int .u8 229] :: (bigF 4 x.length ++ (x ++ (t ++ (e :: rest))))) = b
  have hl : b.length = x.length + 10 + rest.length := by
    rw [← hb]
    simp only [List.length_cons, List.length_append, b1, ht]; omega
  have e1 : wNum b 1 5 = x.length := by
    unfold wNum
    have := sub_at [[Cell.int .u8 229]] (bigF 4 x.length) (x ++ (t ++ (e :: rest))) (i := 1) (j := 5) rfl (by rw [b1]; rfl)
    rw [List.singleton_append, hb] at this
    rw [this, numF_big 4 0 _ (by omega) (by rw [show (256 : Int) ^ 4 = 4294967296 by decide]; omega)]
    omega
  have e2 : subL b 5 (5 + x.length) = x := by
    have := sub_at ([Cell.int .u8 229] :: bigF 4 x.length) x (t ++ (e :: rest)) (i := 5) (j := 5 + x.length) (by rw [List.length_cons, b1]) (by rw [List.length_cons, b1])
    rwa [List.cons_append, hb] at this
  have e3 : wNum b (5 + x.length) (9 + x.length) = numF 0 t := by
    unfold wNum
    have := sub_at ([Cell.int .u8 229] :: (bigF 4 x.length ++ x)) t (e :: rest) (i := 5 + x.length) (j := 9 + x.length) (by rw [List.length_cons, List.length_append, b1]; omega) (by rw [List.length_cons, List.length_append, b1, ht]; omega)
    rw [List.cons_append, List.append_assoc, hb] at this
    rw [this]
  have e4 : Abs.rowAt b (9 + x.length) = e := by
    have hd := drop_cons b (9 + x.length) (by omega)
    have e5 : b = ([Cell.int .u8 229] :: (bigF 4 x.length ++ (x ++ t))) ++ (e :: rest) := by rw [← hb]; simp
    have e6 : b.drop (9 + x.length) = e :: rest := by
      rw [e5, List.drop_append, List.drop_eq_nil_of_le (by simp [b1, ht]; omega), List.nil_append]
      have : 9 + x.length - ([Cell.int .u8 229] :: (bigF 4 x.length ++ (x ++ t))).length = 0 := by simp [b1, ht]; omega
      rw [this]; rfl
    rw [hd] at e6
    exact (List.cons.inj e6).1
  have e7 : nr (Abs.rowAt b 0) 0 = 229 := by rw [← hb]; rfl
  unfold recB
  rw [if_neg (by rw [e7]; omega), e1, if_neg (by omega), Int.toNat_natCast, e2, e3, e4]

end Go.Proofs.Ytpafnokcmhlbgaa

namespace Go.Proofs.Ytpafnokcmhlbgaa

open Go.Abs

structure Up (d : Dk) : Prop where
  ok : DkOk d
  down : d.down = false
  q : d.q = []
  cur : d.cur = d.dur

structure FA (d : Dk) (rs : List (List Cell)) : Prop where
  up : Up d
  len : d.dur.length = 768
  E : recsE rs = 0
  b : ∀ r ∈ rs, okB (nl r 0) = true
  ex : ∃ R T, d.dur = wHdr 1 ++ (encW 1 0 rs ++ (R ++ T)) ∧ recsN rs + R.length = 352 ∧ wGen (T.take 32) = 0 ∧ (recB 1 (recsN rs) R).2 = false

structure FB (d : Dk) (rs : List (List Cell)) : Prop where
  up : Up d
  len : d.dur.length = 768
  E : recsE rs = 0
  b : ∀ r ∈ rs, okB (nl r 0) = true
  ex : ∃ A m, d.dur = A ++ (wHdr 2 ++ (encW 2 0 rs ++ Z m)) ∧ A.length = 384 ∧ wGen (A.take 32) = 1 ∧ recsN rs + m = 352

end Go.Proofs.Ytpafnokcmhlbgaa

namespace Go.Proofs.Ytpafnokcmhlbgaa

open Go.Abs

set_option maxRecDepth 20000

noncomputable def P42_0 : List AItem := F42.at [.snd, .snd, .fst, .snd, .sub, .head]

def M42_0 (t0 : Int) (t5 : Nat) (t6 : Int) (b0 : List (List Cell)) : St := ⟨[(0, .one (.int .u64 t0)), (5, .one (.msl 5 0 t5)), (6, .one (.int .i64 t6))], [.arr 5 b0]⟩

theorem e42 (m : Nat) (v k : Int) : runF E (callOf L26) (m + 1) 42 [.one (.int .u64 v), .one (.int .i64 k)] [] =
  (cond (okMake k k)
  (cond (Nat.blt 0 (Int.toNat k))
  (goF E (callOf L26) F42 0 m P42_0 (M42_0 v (Int.toNat k) (IntKind.wrap .i64 (k - 1)) (List.replicate (Int.toNat k) [Cell.int .u8 0])))
  none)
  none) := by kernel_rfl

theorem e42_0 (m : Nat) (t0 : Int) (t5 : Nat) (t6 : Int) (b0 : List (List Cell)) : goF E (callOf L26) F42 0 (m + 1) P42_0 (M42_0 t0 t5 t6 b0) =
  (cond (decide (t6 ≥ 0))
  (cond (inB t6 t5)
  (cond (Nat.blt (Int.toNat t6) b0.length)
  (goF E (callOf L26) F42 0 m P42_0 (M42_0 (IntKind.wrap .u64 (Int.tdiv t0 256)) t5 (IntKind.wrap .i64 (t6 - 1)) (Abs.setN b0 (Int.toNat t6) (setCells (Abs.rowAt b0 (Int.toNat t6)) 0 [Cell.int .u8 (IntKind.wrap .u8 (Int.tmod t0 256))]))))
  none)
  none)
  (some ([.one (.msl 5 0 t5)], [.arr 5 b0]))) := by kernel_rfl

noncomputable def P75_0 : List AItem := F75.at [.snd, .snd, .fst, .snd, .sub, .head]

def M75_0 (t0 : List (List Cell)) (t3 : Int) (t4 : Int) : St := ⟨[(0, .one (.sl false 5 t0)), (3, .one (.int .u64 t3)), (4, .one (.int .i64 t4))], []⟩

theorem e75 (m : Nat) (x : List (List Cell)) : runF E (callOf L42) (m + 1) 75 [.one (.sl false 5 x)] [] =
  (goF E (callOf L42) F75 0 m P75_0 (M75_0 x 0 0)) := by kernel_rfl

theorem e75_0 (m : Nat) (t0 : List (List Cell)) (t3 t4 : Int) : goF E (callOf L42) F75 0 (m + 1) P75_0 (M75_0 t0 t3 t4) =
  (cond (decide (t4 < (t0.length : Int)))
  (cond (inB t4 t0.length)
  (goF E (callOf L42) F75 0 m P75_0 (M75_0 t0 (IntKind.wrap .u64 ((IntKind.wrap .u64 (t3 * 256)) + (IntKind.wrap .u64 (nr (Abs.rowAt t0 (Int.toNat t4)) 0)))) (IntKind.wrap .i64 (t4 + 1))))
  none)
  (some ([.one (.int .u64 t3)], []))) := by kernel_rfl

noncomputable def P43_0 : List AItem := F43.at [.snd, .snd, .fst, .snd, .sub, .head]

def M43_0 (t0 : List (List Cell)) (t3 : Int) (t4 : Int) : St := ⟨[(0, .one (.sl false 5 t0)), (3, .one (.int .u32 t3)), (4, .one (.int .i64 t4))], []⟩

noncomputable def P43_1 : List AItem := F43.at [.snd, .snd, .fst, .snd, .sub, .body, .snd, .fst, .sub, .snd, .snd, .sub, .head]

def M43_1 (t0 : List (List Cell)) (t3 : Int) (t4 : Int) (t5 : Int) : St := ⟨[(0, .one (.sl false 5 t0)), (3, .one (.int .u32 t3)), (4, .one (.int .i64 t4)), (5, .one (.int .i64 t5))], []⟩

theorem e43 (m : Nat) (x : List (List Cell)) : runF E (callOf L75) (m + 1) 43 [.one (.sl false 5 x)] [] =
  (goF E (callOf L75) F43 0 m P43_0 (M43_0 x 4294967295 0)) := by kernel_rfl

theorem e43_0 (m : Nat) (t0 : List (List Cell)) (t3 t4 : Int) : goF E (callOf L75) F43 0 (m + 1) P43_0 (M43_0 t0 t3 t4) =
  (cond (decide (t4 < (t0.length : Int)))
  (cond (inB t4 t0.length)
  (goF E (callOf L75) F43 0 m P43_1 (M43_1 t0 (xorI .u32 t3 (IntKind.wrap .u32 (nr (Abs.rowAt t0 (Int.toNat t4)) 0))) t4 0))
  none)
  (some ([.one (.int .u32 (xorI .u32 t3 4294967295))], []))) := by kernel_rfl

theorem e43_1 (m : Nat) (t0 : List (List Cell)) (t3 t4 t5 : Int) : goF E (callOf L75) F43 0 (m + 1) P43_1 (M43_1 t0 t3 t4 t5) =
  (cond (decide (t5 < 8))
  (cond ((Int.tmod t3 2) == 1)
  (goF E (callOf L75) F43 0 m P43_1 (M43_1 t0 (xorI .u32 (IntKind.wrap .u32 (Int.tdiv t3 2)) 2197175160) t4 (IntKind.wrap .i64 (t5 + 1))))
  (goF E (callOf L75) F43 0 m P43_1 (M43_1 t0 (IntKind.wrap .u32 (Int.tdiv t3 2)) t4 (IntKind.wrap .i64 (t5 + 1)))))
  (goF E (callOf L75) F43 0 m P43_0 (M43_0 t0 t3 (IntKind.wrap .i64 (t4 + 1))))) := by kernel_rfl

noncomputable def P43_0_c1 : List AItem := F43.at [.snd, .snd, .fst, .snd, .sub, .head]

def M43_0_c1 (t0 : Nat) (t3 : Int) (t4 : Int) (b0 : List (List Cell)) : St := ⟨[(0, .one (.msl 5 0 t0)), (3, .one (.int .u32 t3)), (4, .one (.int .i64 t4))], [.arr 5 b0]⟩

noncomputable def P43_1_c1 : List AItem := F43.at [.snd, .snd, .fst, .snd, .sub, .body, .snd, .fst, .sub, .snd, .snd, .sub, .head]

def M43_1_c1 (t0 : Nat) (t3 : Int) (t4 : Int) (t5 : Int) (b0 : List (List Cell)) : St := ⟨[(0, .one (.msl 5 0 t0)), (3, .one (.int .u32 t3)), (4, .one (.int .i64 t4)), (5, .one (.int .i64 t5))], [.arr 5 b0]⟩

theorem e43_c1 (m un : Nat) (x : List (List Cell)) : runF E (callOf L75) (m + 1) 43 [.one (.msl 5 0 un)] [.arr 5 x] =
  (goF E (callOf L75) F43 1 m P43_0_c1 (M43_0_c1 un 4294967295 0 x)) := by kernel_rfl

theorem e43_0_c1 (m t0 : Nat) (t3 t4 : Int) (b0 : List (List Cell)) : goF E (callOf L75) F43 1 (m + 1) P43_0_c1 (M43_0_c1 t0 t3 t4 b0) =
  (cond (decide (t4 < (t0 : Int)))
  (cond (inB t4 t0)
  (cond (Nat.blt (Int.toNat t4) b0.length)
  (goF E (callOf L75) F43 1 m P43_1_c1 (M43_1_c1 t0 (xorI .u32 t3 (IntKind.wrap .u32 (nr (Abs.rowAt b0 (Int.toNat t4)) 0))) t4 0 b0))
  none)
  none)
  (some ([.one (.int .u32 (xorI .u32 t3 4294967295))], [.arr 5 b0]))) := by kernel_rfl

theorem e43_1_c1 (m t0 : Nat) (t3 t4 t5 : Int) (b0 : List (List Cell)) : goF E (callOf L75) F43 1 (m + 1) P43_1_c1 (M43_1_c1 t0 t3 t4 t5 b0) =
  (cond (decide (t5 < 8))
  (cond ((Int.tmod t3 2) == 1)
  (goF E (callOf L75) F43 1 m P43_1_c1 (M43_1_c1 t0 (xorI .u32 (IntKind.wrap .u32 (Int.tdiv t3 2)) 2197175160) t4 (IntKind.wrap .i64 (t5 + 1)) b0))
  (goF E (callOf L75) F43 1 m P43_1_c1 (M43_1_c1 t0 (IntKind.wrap .u32 (Int.tdiv t3 2)) t4 (IntKind.wrap .i64 (t5 + 1)) b0)))
  (goF E (callOf L75) F43 1 m P43_0_c1 (M43_0_c1 t0 t3 (IntKind.wrap .i64 (t4 + 1)) b0))) := by kernel_rfl

theorem e17 (m : Nat) (g : Int) : runF E (callOf L43) (m + 1) 17 [.one (.int .u64 g)] [] =
  let z1 := bigF (Int.toNat 4) (IntKind.wrap .u64 (crcS ([[Cell.int .u8 69], [Cell.int .u8 83], [Cell.int .u8 76], [Cell.int .u8 49]] ++ (bigF (Int.toNat 8) g))))
  (cond (okV g && okSz 8)
  (cond (Nat.beq (Int.toNat 8) (bigF (Int.toNat 8) g).length)
  (cond (fits ([[Cell.int .u8 69], [Cell.int .u8 83], [Cell.int .u8 76], [Cell.int .u8 49]].length + (bigF (Int.toNat 8) g).length))
  (cond (okBl ([[Cell.int .u8 69], [Cell.int .u8 83], [Cell.int .u8 76], [Cell.int .u8 49]] ++ (bigF (Int.toNat 8) g)) && Nat.beq ([[Cell.int .u8 69], [Cell.int .u8 83], [Cell.int .u8 76], [Cell.int .u8 49]].length + (bigF (Int.toNat 8) g).length) ([[Cell.int .u8 69], [Cell.int .u8 83], [Cell.int .u8 76], [Cell.int .u8 49]] ++ (bigF (Int.toNat 8) g)).length)
  (cond (okV (IntKind.wrap .u64 (crcS ([[Cell.int .u8 69], [Cell.int .u8 83], [Cell.int .u8 76], [Cell.int .u8 49]] ++ (bigF (Int.toNat 8) g)))) && okSz 4)
  (cond (Nat.beq (Int.toNat 4) z1.length)
  (cond (Nat.beq ([[Cell.int .u8 69], [Cell.int .u8 83], [Cell.int .u8 76], [Cell.int .u8 49]].length + (bigF (Int.toNat 8) g).length) ([[Cell.int .u8 69], [Cell.int .u8 83], [Cell.int .u8 76], [Cell.int .u8 49]] ++ (bigF (Int.toNat 8) g)).length)
  (cond (fits (([[Cell.int .u8 69], [Cell.int .u8 83], [Cell.int .u8 76], [Cell.int .u8 49]] ++ (bigF (Int.toNat 8) g)).length + z1.length))
  (cond (Nat.beq (([[Cell.int .u8 69], [Cell.int .u8 83], [Cell.int .u8 76], [Cell.int .u8 49]] ++ (bigF (Int.toNat 8) g)).length + z1.length) (([[Cell.int .u8 69], [Cell.int .u8 83], [Cell.int .u8 76], [Cell.int .u8 49]] ++ (bigF (Int.toNat 8) g)) ++ z1).length)
  (cond (fits ((([[Cell.int .u8 69], [Cell.int .u8 83], [Cell.int .u8 76], [Cell.int .u8 49]] ++ (bigF (Int.toNat 8) g)) ++ z1).length + 16))
  (cond (Nat.beq ((([[Cell.int .u8 69], [Cell.int .u8 83], [Cell.int .u8 76], [Cell.int .u8 49]] ++ (bigF (Int.toNat 8) g)) ++ z1).length + 16) ((([[Cell.int .u8 69], [Cell.int .u8 83], [Cell.int .u8 76], [Cell.int .u8 49]] ++ (bigF (Int.toNat 8) g)) ++ z1) ++ List.replicate 16 [Cell.int .u8 0]).length)
  (some ([.one (.sl false 5 ((([[Cell.int .u8 69], [Cell.int .u8 83], [Cell.int .u8 76], [Cell.int .u8 49]] ++ (bigF (Int.toNat 8) g)) ++ z1) ++ List.replicate 16 [Cell.int .u8 0]))], []))
  none)
  none)
  none)
  none)
  none)
  none)
  none)
  none)
  none)
  none)
  none) := by kernel_rfl

theorem e19 (m : Nat) (g o : Int) (x : List (List Cell)) : runF E (callOf L17) (m + 1) 19 [.one (.int .u64 g), .one (.int .i64 o), .one (.sl false 5 x)] [] =
  let z1 := bigF (Int.toNat 4) (IntKind.wrap .u64 (x.length : Int))
  let z2 := bigF (Int.toNat 4) (IntKind.wrap .u64 o)
  (cond (okV (IntKind.wrap .u64 (x.length : Int)) && okSz 4)
  (cond (okV g && okSz 8)
  (cond (okV (IntKind.wrap .u64 o) && okSz 4)
  (cond (Nat.beq (Int.toNat 4) z2.length)
  (cond (Nat.beq (Int.toNat 8) (bigF (Int.toNat 8) g).length)
  (cond (fits ((bigF (Int.toNat 8) g).length + z2.length))
  (cond (Nat.beq (Int.toNat 4) z1.length)
  (cond (Nat.beq ((bigF (Int.toNat 8) g).length + z2.length) ((bigF (Int.toNat 8) g) ++ z2).length)
  (cond (fits (((bigF (Int.toNat 8) g) ++ z2).length + z1.length))
  (cond (Nat.beq (((bigF (Int.toNat 8) g) ++ z2).length + z1.length) (((bigF (Int.toNat 8) g) ++ z2) ++ z1).length)
  (cond (fits ((((bigF (Int.toNat 8) g) ++ z2) ++ z1).length + x.length))
  (cond (Nat.beq (Int.toNat 4) z1.length)
  (cond (fits ([[Cell.int .u8 229]].length + z1.length))
  (cond (fits (([[Cell.int .u8 229]] ++ z1).length + x.length))
  (cond (okBl ((((bigF (Int.toNat 8) g) ++ z2) ++ z1) ++ x) && Nat.beq ((((bigF (Int.toNat 8) g) ++ z2) ++ z1).length + x.length) ((((bigF (Int.toNat 8) g) ++ z2) ++ z1) ++ x).length)
  (cond (okV (IntKind.wrap .u64 (crcS ((((bigF (Int.toNat 8) g) ++ z2) ++ z1) ++ x))) && okSz 4)
  (cond (Nat.beq (Int.toNat 4) (bigF (Int.toNat 4) (IntKind.wrap .u64 (crcS ((((bigF (Int.toNat 8) g) ++ z2) ++ z1) ++ x)))).length)
  (cond (fits ((([[Cell.int .u8 229]] ++ z1) ++ x).length + (bigF (Int.toNat 4) (IntKind.wrap .u64 (crcS ((((bigF (Int.toNat 8) g) ++ z2) ++ z1) ++ x)))).length))
  (cond (fits (((([[Cell.int .u8 229]] ++ z1) ++ x) ++ (bigF (Int.toNat 4) (IntKind.wrap .u64 (crcS ((((bigF (Int.toNat 8) g) ++ z2) ++ z1) ++ x))))).length + [[Cell.int .u8 255]].length))
  (some ([.one (.sl false 5 (((([[Cell.int .u8 229]] ++ z1) ++ x) ++ (bigF (Int.toNat 4) (IntKind.wrap .u64 (crcS ((((bigF (Int.toNat 8) g) ++ z2) ++ z1) ++ x))))) ++ [[Cell.int .u8 255]]))], []))
  none)
  none)
  none)
  none)
  none)
  none)
  none)
  none)
  none)
  none)
  none)
  none)
  none)
  none)
  none)
  none)
  none)
  none)
  none) := by kernel_rfl

theorem e76 (m : Nat) (x y : List (List Cell)) : runF E (callOf L19) (m + 1) 76 [.one (.sl false 5 x), .one (.sl false 5 y)] [] =
  (some ([.one (.bool ((toBytes x) == (toBytes y)))], [])) := by kernel_rfl

noncomputable def P57_0 : List AItem := F57.at [.snd, .snd, .snd, .fst, .sub, .head]

def M57_0 (t0 : Int) (t1 : List (List Cell)) (t6 : List (List Cell)) (t7 : Int) : St := ⟨[(0, .one (.int .u64 t0)), (1, .one (.sl false 5 t1)), (6, .one (.sl true 22 t6)), (7, .one (.int .i64 t7))], []⟩

theorem e57 (m : Nat) (g : Int) (x : List (List Cell)) : runF E (callOf L76) (m + 1) 57 [.one (.int .u64 g), .one (.sl false 5 x)] [] =
  (goF E (callOf L76) F57 0 m P57_0 (M57_0 g x ([] : List (List Cell)) 0)) := by kernel_rfl

theorem e57_0 (m : Nat) (t0 : Int) (t1 t6 : List (List Cell)) (t7 : Int) : goF E (callOf L76) F57 0 (m + 1) P57_0 (M57_0 t0 t1 t6 t7) =
  let z1 := subL t1 (Int.toNat (IntKind.wrap .i64 (t7 + 1))) (Int.toNat (IntKind.wrap .i64 (t7 + 5)))
  let z2 := subL t1 (Int.toNat (IntKind.wrap .i64 (t7 + 5))) (Int.toNat (IntKind.wrap .i64 ((IntKind.wrap .i64 (t7 + 5)) + (IntKind.wrap .i64 (numF 0 z1)))))
  (cond (decide ((IntKind.wrap .i64 (t7 + 10)) ≤ (t1.length : Int)))
  (cond (inB t7 t1.length)
  (cond ((nr (Abs.rowAt t1 (Int.toNat t7)) 0) == 229)
  (cond (inB (IntKind.wrap .i64 (t7 + 5)) (t1.length + 1))
  (cond (inB (IntKind.wrap .i64 (t7 + 1)) ((Int.toNat (IntKind.wrap .i64 (t7 + 5))) + 1))
  (cond (okB z1 && pd (z1.length ≤ 8))
  (cond (decide ((numF 0 z1) < 1))
  (some ([.one (.sl true 22 t6), .one (.int .i64 t7)], []))
  (cond (decide ((numF 0 z1) > 30000))
  (some ([.one (.sl true 22 t6), .one (.int .i64 t7)], []))
  (cond (decide ((IntKind.wrap .i64 (numF 0 z1)) > (IntKind.wrap .i64 ((IntKind.wrap .i64 ((t1.length : Int) - t7)) - 10))))
  (some ([.one (.sl true 22 t6), .one (.int .i64 t7)], []))
  (cond (inB (IntKind.wrap .i64 ((IntKind.wrap .i64 (t7 + 5)) + (IntKind.wrap .i64 (numF 0 z1)))) (t1.length + 1))
  (cond (inB (IntKind.wrap .i64 (t7 + 5)) ((Int.toNat (IntKind.wrap .i64 ((IntKind.wrap .i64 (t7 + 5)) + (IntKind.wrap .i64 (numF 0 z1))))) + 1))
  (cond (fits (([] : List (List Cell)).length + z2.length))
  (cond (okV t0 && okRx t7 (([] : List (List Cell)) ++ z2))
  (cond (inB (IntKind.wrap .i64 (t7 + ((wEnc t0 t7 (([] : List (List Cell)) ++ z2)).length : Int))) (t1.length + 1))
  (cond (inB t7 ((Int.toNat (IntKind.wrap .i64 (t7 + ((wEnc t0 t7 (([] : List (List Cell)) ++ z2)).length : Int)))) + 1))
  (cond (!((toBytes (wEnc t0 t7 (([] : List (List Cell)) ++ z2))) == (toBytes (subL t1 (Int.toNat t7) (Int.toNat (IntKind.wrap .i64 (t7 + ((wEnc t0 t7 (([] : List (List Cell)) ++ z2)).length : Int))))))))
  (some ([.one (.sl true 22 t6), .one (.int .i64 t7)], []))
  (cond (fits (t6.length + [[Cell.slice 5 (([] : List (List Cell)) ++ z2)]].length))
  (goF E (callOf L76) F57 0 m P57_0 (M57_0 t0 t1 (t6 ++ [[Cell.slice 5 (([] : List (List Cell)) ++ z2)]]) (IntKind.wrap .i64 (t7 + ((wEnc t0 t7 (([] : List (List Cell)) ++ z2)).length : Int)))))
  none))
  none)
  none)
  none)
  none)
  none)
  none))))
  none)
  none)
  none)
  (some ([.one (.sl true 22 t6), .one (.int .i64 t7)], [])))
  none)
  (some ([.one (.sl true 22 t6), .one (.int .i64 t7)], []))) := by kernel_rfl

noncomputable def P54_0 : List AItem := F54.at [.snd, .fst, .snd, .sub, .head]

def M54_0 (t0 : List (List Cell)) (t3 : Int) : St := ⟨[(0, .one (.sl false 5 t0)), (3, .one (.int .i64 t3))], []⟩

theorem e54 (m : Nat) (x : List (List Cell)) : runF E (callOf L57) (m + 1) 54 [.one (.sl false 5 x)] [] =
  (goF E (callOf L57) F54 0 m P54_0 (M54_0 x 0)) := by kernel_rfl

theorem e54_0 (m : Nat) (t0 : List (List Cell)) (t3 : Int) : goF E (callOf L57) F54 0 (m + 1) P54_0 (M54_0 t0 t3) =
  (cond (decide (t3 < (t0.length : Int)))
  (cond (inB t3 t0.length)
  (cond ((nr (Abs.rowAt t0 (Int.toNat t3)) 0) != 0)
  (some ([.one (.bool false)], []))
  (goF E (callOf L57) F54 0 m P54_0 (M54_0 t0 (IntKind.wrap .i64 (t3 + 1)))))
  none)
  (some ([.one (.bool true)], []))) := by kernel_rfl

theorem e13 (m : Nat) (n : Int) : runF E (callOf L54) (m + 1) 13 [.one (.int .i64 n)] [] =
  (cond (okMake (IntKind.wrap .i64 (32 * (if (if n < 2048 then n else 2048) > 1 then (if n < 2048 then n else 2048) else 1))) (IntKind.wrap .i64 (32 * (if (if n < 2048 then n else 2048) > 1 then (if n < 2048 then n else 2048) else 1))))
  (some ([.agg [.sl false 5 (List.replicate (Int.toNat (IntKind.wrap .i64 (32 * (if (if n < 2048 then n else 2048) > 1 then (if n < 2048 then n else 2048) else 1)))) [Cell.int .u8 0]), .sl true 99 ([] : List (List Cell)), .bool false, .bool false, .int .i64 0]], []))
  none) := by kernel_rfl

theorem e14 (m : Nat) (du qu : List (List Cell)) (dn am : Bool) (lf : Int) : runF E (callOf L13) (m + 1) 14 [.one (.ptr 0 0)] [.var [.sl false 5 du, .sl true 99 qu, .bool dn, .bool am, .int .i64 lf]] =
  (some ([.one (.int .i64 (IntKind.wrap .i64 (Int.tdiv (du.length : Int) 32)))], [.var [.sl false 5 du, .sl true 99 qu, .bool dn, .bool am, .int .i64 lf]])) := by kernel_rfl

theorem e69 (m : Nat) (o k : Int) (du qu : List (List Cell)) (dn am : Bool) (lf : Int) : runF E (callOf L14) (m + 1) 69 [.one (.ptr 0 0), .one (.int .i64 o), .one (.int .i64 k)] [.var [.sl false 5 du, .sl true 99 qu, .bool dn, .bool am, .int .i64 lf]] =
  (cond (decide (o ≥ 0))
  (cond (decide (k ≥ 0))
  (cond (decide (o ≤ (du.length : Int)))
  (some ([.one (.bool (decide (k ≤ (IntKind.wrap .i64 ((du.length : Int) - o)))))], [.var [.sl false 5 du, .sl true 99 qu, .bool dn, .bool am, .int .i64 lf]]))
  (some ([.one (.bool false)], [.var [.sl false 5 du, .sl true 99 qu, .bool dn, .bool am, .int .i64 lf]])))
  (some ([.one (.bool false)], [.var [.sl false 5 du, .sl true 99 qu, .bool dn, .bool am, .int .i64 lf]])))
  (some ([.one (.bool false)], [.var [.sl false 5 du, .sl true 99 qu, .bool dn, .bool am, .int .i64 lf]]))) := by kernel_rfl

noncomputable def P25_0 : List AItem := F25.at [.snd, .snd, .fst, .snd, .sub, .head]

def M25_0 (t3 : Nat) (t4 : Int) (b0 : List (List Cell)) (b0_1 : List (List Cell)) (b0_2 : Bool) (b0_3 : Bool) (b0_4 : Int) (b1 : List (List Cell)) : St := ⟨[(0, .one (.ptr 0 0)), (3, .one (.msl 5 1 t3)), (4, .one (.int .i64 t4))], [.var [.sl false 5 b0, .sl true 99 b0_1, .bool b0_2, .bool b0_3, .int .i64 b0_4], .arr 5 b1]⟩

theorem e25 (m : Nat) (du qu : List (List Cell)) (dn am : Bool) (lf : Int) : runF E (callOf L69) (m + 1) 25 [.one (.ptr 0 0)] [.var [.sl false 5 du, .sl true 99 qu, .bool dn, .bool am, .int .i64 lf]] =
  (cond (fits (([] : List (List Cell)).length + du.length))
  (goF E (callOf L69) F25 1 m P25_0 (M25_0 (([] : List (List Cell)).length + du.length) 0 du qu dn am lf (([] : List (List Cell)) ++ du)))
  none) := by kernel_rfl

theorem e25_0 (m t3 : Nat) (t4 : Int) (b0 b0_1 : List (List Cell)) (b0_2 b0_3 : Bool) (b0_4 : Int) (b1 : List (List Cell)) : goF E (callOf L69) F25 1 (m + 1) P25_0 (M25_0 t3 t4 b0 b0_1 b0_2 b0_3 b0_4 b1) =
  (cond (decide (t4 < (b0_1.length : Int)))
  (cond (inB t4 b0_1.length)
  (cond (Nat.blt 0 t3)
  (cond (inB (nr (Abs.rowAt b0_1 (Int.toNat t4)) 0) (t3 + 1))
  (cond (inB t4 b0_1.length)
  (cond (Nat.blt 0 b1.length)
  (cond (Nat.ble ((0 + (Int.toNat (nr (Abs.rowAt b0_1 (Int.toNat t4)) 0))) + (t3 - (Int.toNat (nr (Abs.rowAt b0_1 (Int.toNat t4)) 0)))) b1.length)
  (goF E (callOf L69) F25 1 m P25_0 (M25_0 t3 (IntKind.wrap .i64 (t4 + 1)) b0 b0_1 b0_2 b0_3 b0_4 (overL b1 (0 + (Int.toNat (nr (Abs.rowAt b0_1 (Int.toNat t4)) 0))) (takeN (nl (Abs.rowAt b0_1 (Int.toNat t4)) 1) (minN (t3 - (Int.toNat (nr (Abs.rowAt b0_1 (Int.toNat t4)) 0))) (nl (Abs.rowAt b0_1 (Int.toNat t4)) 1).length)))))
  none)
  none)
  none)
  none)
  none)
  none)
  (cond (Nat.beq t3 b1.length)
  (some ([.one (.sl false 5 b1)], [.var [.sl false 5 b0, .sl true 99 b0_1, .bool b0_2, .bool b0_3, .int .i64 b0_4]]))
  none)) := by kernel_rfl

noncomputable def P41_0 : List AItem := F41.at [.snd, .snd, .snd, .fst, .sub, .head]

def M41_0 (t1 : Int) (t2 : List (List Cell)) (b0 : List (List Cell)) (b0_1 : List (List Cell)) (b0_2 : Bool) (b0_3 : Bool) (b0_4 : Int) : St := ⟨[(0, .one (.ptr 0 0)), (1, .one (.int .i64 t1)), (2, .one (.sl false 5 t2))], [.var [.sl false 5 b0, .sl true 99 b0_1, .bool b0_2, .bool b0_3, .int .i64 b0_4]]⟩

theorem e41 (m : Nat) (o : Int) (x du qu : List (List Cell)) (dn am : Bool) (lf : Int) : runF E (callOf L25) (m + 1) 41 [.one (.ptr 0 0), .one (.int .i64 o), .one (.sl false 5 x)] [.var [.sl false 5 du, .sl true 99 qu, .bool dn, .bool am, .int .i64 lf]] =
  (cond dn
  (some ([.one (.int .i64 15)], [.var [.sl false 5 du, .sl true 99 qu, .bool dn, .bool am, .int .i64 lf]]))
  (cond (okR (rD du qu dn am lf))
  (cond (!(rIn du o (x.length : Int)))
  (some ([.one (.int .i64 9)], [.var [.sl false 5 du, .sl true 99 qu, .bool dn, .bool am, .int .i64 lf]]))
  (goF E (callOf L25) F41 1 m P41_0 (M41_0 o x du qu dn am lf)))
  none)) := by kernel_rfl

theorem e41_0 (m : Nat) (t1 : Int) (t2 b0 b0_1 : List (List Cell)) (b0_2 b0_3 : Bool) (b0_4 : Int) : goF E (callOf L25) F41 1 (m + 1) P41_0 (M41_0 t1 t2 b0 b0_1 b0_2 b0_3 b0_4) =
  let z2 := IntKind.wrap .i64 (32 - (Int.tmod t1 32))
  let z1 := Int.toNat (if z2 < (t2.length : Int) then z2 else (t2.length : Int))
  let z3 := fits (b0_1.length + [[Cell.int .i64 t1, Cell.slice 5 (([] : List (List Cell)) ++ (takeN t2 z1))]].length)
  let z4 := IntKind.wrap .i64 (t1 + (if z2 < (t2.length : Int) then z2 else (t2.length : Int)))
  (cond (decide ((t2.length : Int) > 0))
  (cond b0_3
  (cond (b0_4 == 0)
  (some ([.one (.int .i64 15)], [.var [.sl false 5 b0, .sl true 99 b0_1, .bool true, .bool b0_3, .int .i64 b0_4]]))
  (cond b0_3
  (cond (inB (if z2 < (t2.length : Int) then z2 else (t2.length : Int)) (t2.length + 1))
  (cond (fits (([] : List (List Cell)).length + (takeN t2 z1).length))
  (cond z3
  (cond (inB (if z2 < (t2.length : Int) then z2 else (t2.length : Int)) (t2.length + 1))
  (goF E (callOf L25) F41 1 m P41_0 (M41_0 z4 (dropN t2 z1) b0 (b0_1 ++ [[Cell.int .i64 t1, Cell.slice 5 (([] : List (List Cell)) ++ (takeN t2 z1))]]) b0_2 b0_3 (IntKind.wrap .i64 (b0_4 - 1))))
  none)
  none)
  none)
  none)
  (cond (inB (if z2 < (t2.length : Int) then z2 else (t2.length : Int)) (t2.length + 1))
  (cond (fits (([] : List (List Cell)).length + (takeN t2 z1).length))
  (cond z3
  (cond (inB (if z2 < (t2.length : Int) then z2 else (t2.length : Int)) (t2.length + 1))
  (goF E (callOf L25) F41 1 m P41_0 (M41_0 z4 (dropN t2 z1) b0 (b0_1 ++ [[Cell.int .i64 t1, Cell.slice 5 (([] : List (List Cell)) ++ (takeN t2 z1))]]) b0_2 b0_3 b0_4))
  none)
  none)
  none)
  none)))
  (cond b0_3
  (cond (inB (if z2 < (t2.length : Int) then z2 else (t2.length : Int)) (t2.length + 1))
  (cond (fits (([] : List (List Cell)).length + (takeN t2 z1).length))
  (cond z3
  (cond (inB (if z2 < (t2.length : Int) then z2 else (t2.length : Int)) (t2.length + 1))
  (goF E (callOf L25) F41 1 m P41_0 (M41_0 z4 (dropN t2 z1) b0 (b0_1 ++ [[Cell.int .i64 t1, Cell.slice 5 (([] : List (List Cell)) ++ (takeN t2 z1))]]) b0_2 b0_3 (IntKind.wrap .i64 (b0_4 - 1))))
  none)
  none)
  none)
  none)
  (cond (inB (if z2 < (t2.length : Int) then z2 else (t2.length : Int)) (t2.length + 1))
  (cond (fits (([] : List (List Cell)).length + (takeN t2 z1).length))
  (cond z3
  (cond (inB (if z2 < (t2.length : Int) then z2 else (t2.length : Int)) (t2.length + 1))
  (goF E (callOf L25) F41 1 m P41_0 (M41_0 z4 (dropN t2 z1) b0 (b0_1 ++ [[Cell.int .i64 t1, Cell.slice 5 (([] : List (List Cell)) ++ (takeN t2 z1))]]) b0_2 b0_3 b0_4))
  none)
  none)
  none)
  none)))
  (some ([.one (.int .i64 0)], [.var [.sl false 5 b0, .sl true 99 b0_1, .bool b0_2, .bool b0_3, .int .i64 b0_4]]))) := by kernel_rfl

theorem e21 (m : Nat) (du qu : List (List Cell)) (dn am : Bool) (lf : Int) : runF E (callOf L41) (m + 1) 21 [.one (.ptr 0 0)] [.var [.sl false 5 du, .sl true 99 qu, .bool dn, .bool am, .int .i64 lf]] =
  (cond dn
  (some ([.one (.int .i64 15)], [.var [.sl false 5 du, .sl true 99 qu, .bool dn, .bool am, .int .i64 lf]]))
  (cond (okR (rD du qu dn am lf))
  (some ([.one (.int .i64 0)], [.var [.sl false 5 (putQ du qu), .sl true 99 ([] : List (List Cell)), .bool dn, .bool am, .int .i64 lf]]))
  none)) := by kernel_rfl

theorem e58 (m : Nat) (du qu : List (List Cell)) (dn am : Bool) (lf : Int) : runF E (callOf L21) (m + 1) 58 [.one (.ptr 0 0)] [.var [.sl false 5 du, .sl true 99 qu, .bool dn, .bool am, .int .i64 lf]] =
  (cond (okR (rD du qu dn am lf))
  (some ([.one (.int .i64 (IntKind.wrap .i64 ((IntKind.wrap .i64 (Int.tdiv (secs du) 2)) * 32)))], [.var [.sl false 5 du, .sl true 99 qu, .bool dn, .bool am, .int .i64 lf]]))
  none) := by kernel_rfl

theorem e53 (m : Nat) (s : Int) (du qu : List (List Cell)) (dn am : Bool) (lf : Int) : runF E (callOf L58) (m + 1) 53 [.one (.ptr 0 0), .one (.int .i64 s)] [.var [.sl false 5 du, .sl true 99 qu, .bool dn, .bool am, .int .i64 lf]] =
  (cond (okR (rD du qu dn am lf))
  (cond (okR (rD du qu dn am lf))
  (cond (inB (IntKind.wrap .i64 (s * (Dk.half (rD du qu dn am lf)))) ((putQ du qu).length + 1))
  (cond (inB 32 ((dropN (putQ du qu) (Int.toNat (IntKind.wrap .i64 (s * (Dk.half (rD du qu dn am lf)))))).length + 1))
  (cond (inB 12 ((takeN (dropN (putQ du qu) (Int.toNat (IntKind.wrap .i64 (s * (Dk.half (rD du qu dn am lf)))))) 32).length + 1))
  (cond (okB (subL (takeN (dropN (putQ du qu) (Int.toNat (IntKind.wrap .i64 (s * (Dk.half (rD du qu dn am lf)))))) 32) 4 12) && pd ((subL (takeN (dropN (putQ du qu) (Int.toNat (IntKind.wrap .i64 (s * (Dk.half (rD du qu dn am lf)))))) 32) 4 12).length ≤ 8))
  (cond (okV (numF 0 (subL (takeN (dropN (putQ du qu) (Int.toNat (IntKind.wrap .i64 (s * (Dk.half (rD du qu dn am lf)))))) 32) 4 12)))
  (cond ((toBytes (takeN (dropN (putQ du qu) (Int.toNat (IntKind.wrap .i64 (s * (Dk.half (rD du qu dn am lf)))))) 32)) == (toBytes (wHdr (numF 0 (subL (takeN (dropN (putQ du qu) (Int.toNat (IntKind.wrap .i64 (s * (Dk.half (rD du qu dn am lf)))))) 32) 4 12)))))
  (some ([.one (.int .u64 (numF 0 (subL (takeN (dropN (putQ du qu) (Int.toNat (IntKind.wrap .i64 (s * (Dk.half (rD du qu dn am lf)))))) 32) 4 12)))], [.var [.sl false 5 du, .sl true 99 qu, .bool dn, .bool am, .int .i64 lf]]))
  (some ([.one (.int .u64 0)], [.var [.sl false 5 du, .sl true 99 qu, .bool dn, .bool am, .int .i64 lf]])))
  none)
  none)
  none)
  none)
  none)
  none)
  none) := by kernel_rfl

theorem e55 (m : Nat) (s : Int) (du qu : List (List Cell)) (dn am : Bool) (lf : Int) : runF E (callOf L53) (m + 1) 55 [.one (.ptr 0 0), .one (.int .i64 s)] [.var [.sl false 5 du, .sl true 99 qu, .bool dn, .bool am, .int .i64 lf]] =
  (cond (okR (rD du qu dn am lf))
  (cond (okR (rD du qu dn am lf))
  (cond (okR (rD du qu dn am lf))
  (cond (inB (IntKind.wrap .i64 ((IntKind.wrap .i64 (s + 1)) * (Dk.half (rD du qu dn am lf)))) ((putQ du qu).length + 1))
  (cond (inB (IntKind.wrap .i64 ((IntKind.wrap .i64 (s * (Dk.half (rD du qu dn am lf)))) + 32)) ((Int.toNat (IntKind.wrap .i64 ((IntKind.wrap .i64 (s + 1)) * (Dk.half (rD du qu dn am lf))))) + 1))
  (some ([.one (.sl false 5 (subL (putQ du qu) (Int.toNat (IntKind.wrap .i64 ((IntKind.wrap .i64 (s * (Dk.half (rD du qu dn am lf)))) + 32))) (Int.toNat (IntKind.wrap .i64 ((IntKind.wrap .i64 (s + 1)) * (Dk.half (rD du qu dn am lf)))))))], [.var [.sl false 5 du, .sl true 99 qu, .bool dn, .bool am, .int .i64 lf]]))
  none)
  none)
  none)
  none)
  none) := by kernel_rfl

theorem e56 (m : Nat) (o : Int) (x du qu : List (List Cell)) (dn am : Bool) (lf : Int) : runF E (callOf L55) (m + 1) 56 [.one (.ptr 0 0), .one (.int .i64 o), .one (.sl false 5 x)] [.var [.sl false 5 du, .sl true 99 qu, .bool dn, .bool am, .int .i64 lf]] =
  let z2 := Dr.d (Dk.write (rD du qu dn am lf) o x)
  let z1 := rD (Dk.dur z2) (Dk.q z2) (Dk.down z2) (Dk.arm z2) (Dk.left z2)
  (cond (okR (rD du qu dn am lf) && okWx (rD du qu dn am lf) x)
  (cond ((Dr.e (Dk.write (rD du qu dn am lf) o x)) != 0)
  (some ([.one (.int .i64 (Dr.e (Dk.write (rD du qu dn am lf) o x)))], [.var [.sl false 5 (Dk.dur z2), .sl true 99 (Dk.q z2), .bool (Dk.down z2), .bool (Dk.arm z2), .int .i64 (Dk.left z2)]]))
  (cond (okR z1)
  (some ([.one (.int .i64 (Dr.e (Dk.sync z1)))], [.var [.sl false 5 (Dk.dur (Dr.d (Dk.sync z1))), .sl true 99 (Dk.q (Dr.d (Dk.sync z1))), .bool (Dk.down (Dr.d (Dk.sync z1))), .bool (Dk.arm (Dr.d (Dk.sync z1))), .int .i64 (Dk.left (Dr.d (Dk.sync z1)))]]))
  none))
  none) := by kernel_rfl

theorem e60 (m : Nat) (ac ge : Int) (rc : List (List Cell)) (fi : Int) (fa : Bool) (du qu : List (List Cell)) (dn am : Bool) (lf : Int) : runF E (callOf L23) (m + 1) 60 [.one (.ptr 0 0)] [.var [.ptr 1 0, .int .i64 ac, .int .u64 ge, .sl true 22 rc, .int .i64 fi, .bool fa], .var [.sl false 5 du, .sl true 99 qu, .bool dn, .bool am, .int .i64 lf]] =
  (cond (okR (rD du qu dn am lf))
  (some ([.one (.int .i64 (IntKind.wrap .i64 ((Dk.half (rD du qu dn am lf)) - 32)))], [.var [.ptr 1 0, .int .i64 ac, .int .u64 ge, .sl true 22 rc, .int .i64 fi, .bool fa], .var [.sl false 5 du, .sl true 99 qu, .bool dn, .bool am, .int .i64 lf]]))
  none) := by kernel_rfl

theorem e31 (m : Nat) (ac ge : Int) (rc : List (List Cell)) (fi : Int) (fa : Bool) (du qu : List (List Cell)) (dn am : Bool) (lf : Int) : runF E (callOf L60) (m + 1) 31 [.one (.ptr 0 0)] [.var [.ptr 1 0, .int .i64 ac, .int .u64 ge, .sl true 22 rc, .int .i64 fi, .bool fa], .var [.sl false 5 du, .sl true 99 qu, .bool dn, .bool am, .int .i64 lf]] =
  (cond (okR (rD du qu dn am lf))
  (cond (true && ((sb1 (.var [.ptr 1 0, .int .i64 ac, .int .u64 ge, .sl true 22 rc, .int .i64 fi, .bool fa])) && ((sb1 (.var [.sl false 5 du, .sl true 99 qu, .bool dn, .bool am, .int .i64 lf])) && true)))
  (some ([.one (.int .i64 (IntKind.wrap .i64 ((Dk.half (rD du qu dn am lf) - 32) - fi)))], [.var [.ptr 1 0, .int .i64 ac, .int .u64 ge, .sl true 22 rc, .int .i64 fi, .bool fa], .var [.sl false 5 du, .sl true 99 qu, .bool dn, .bool am, .int .i64 lf]]))
  none)
  none) := by kernel_rfl

theorem e16 (m : Nat) (a : Int) (x : List (List Cell)) (un cn : Nat) (qu : List (List Cell)) (am : Bool) (lf : Int) (dn : Bool) (du cu ru rq : List (List Cell)) (rn ra : Bool) (rl : Int) : runF E (callOf L31) (m + 1) 16 [.one (.ptr 0 0), .one (.ptr 3 0), .one (.int .i64 a), .one (.sl false 5 x)] [.var [.msl 5 1 un, .msl 5 2 cn, .sl true 85 qu, .bool am, .int .i64 lf, .bool dn], .arr 5 du, .arr 5 cu, .var [.sl false 5 ru, .sl true 99 rq, .bool rn, .bool ra, .int .i64 rl]] =
  let z1 := IntKind.wrap .i64 ((ru.length : Int) - a)
  let z2 := takeN x (Int.toNat (if (if z1 < (x.length : Int) then z1 else (x.length : Int)) > 0 then (if z1 < (x.length : Int) then z1 else (x.length : Int)) else 0))
  let z3 := Dr.d (Dk.write (Dk.mk du cu qu am lf dn) a z2)
  (cond (inB (if (if z1 < (x.length : Int) then z1 else (x.length : Int)) > 0 then (if z1 < (x.length : Int) then z1 else (x.length : Int)) else 0) (x.length + 1))
  (cond (okDk un cn (Dk.mk du cu qu am lf dn) && okWx (Dk.mk du cu qu am lf dn) z2)
  (cond (okR (rD ru rq rn ra rl) && okWx (rD ru rq rn ra rl) z2)
  (some ([], [.var [.msl 5 1 un, .msl 5 2 cn, .sl true 85 (Dk.q z3), .bool (Dk.arm z3), .int .i64 (Dk.left z3), .bool (Dk.down z3)], .arr 5 (Dk.dur z3), .arr 5 (Dk.cur z3), .var [.sl false 5 (Dk.dur (Dr.d (Dk.write (rD ru rq rn ra rl) a z2))), .sl true 99 (Dk.q (Dr.d (Dk.write (rD ru rq rn ra rl) a z2))), .bool (Dk.down (Dr.d (Dk.write (rD ru rq rn ra rl) a z2))), .bool (Dk.arm (Dr.d (Dk.write (rD ru rq rn ra rl) a z2))), .int .i64 (Dk.left (Dr.d (Dk.write (rD ru rq rn ra rl) a z2)))]]))
  none)
  none)
  none) := by kernel_rfl

end Go.Proofs.Ytpafnokcmhlbgaa

namespace Go.Proofs.Ytpafnokcmhlbgaa

open Go.Abs

theorem set_at (a b : List (List Cell)) (r s : List Cell) : Abs.setN (a ++ (r :: b)) a.length s = a ++ (s :: b) := by
  induction a with
  | nil => rfl
  | cons x a ih => exact congrArg (x :: ·) ih

theorem row_at (a b : List (List Cell)) (r : List Cell) : Abs.rowAt (a ++ (r :: b)) a.length = r := by
  have h := drop_cons (a ++ (r :: b)) a.length (by simp)
  rw [List.drop_append, List.drop_eq_nil_of_le (Nat.le_refl _), List.nil_append, Nat.sub_self] at h
  exact (List.cons.inj h).1.symm

theorem l42 : ∀ (n : Nat) (v : Int) (y : List (List Cell)), 0 ≤ v → v < 18446744073709551616 → n ≤ 8 → ∃ m, goF E (callOf L26) F42 0 m P42_0 (M42_0 v (n + y.length) ((n : Int) - 1) (Z n ++ y)) = some ([.one (.msl 5 0 (n + y.length))], [.arr 5 (bigF n v ++ y)])
  | 0, v, y, h0, h, hn => by
    refine ⟨1, ?_⟩
    rw [e42_0]
    exact cf (decide_eq_false (by omega)) rfl
  | n + 1, v, y, h0, h, hn => by
    obtain ⟨m, hm⟩ := l42 n (v / 256) ([.int .u8 (v % 256)] :: y) (by omega) (by omega) (by omega)
    refine ⟨m + 1, ?_⟩
    have hz : Z (n + 1) ++ y = Z n ++ ([.int .u8 0] :: y) := by rw [Z, List.replicate_succ', List.append_assoc]; rfl
    have hzl : (Z n).length = n := List.length_replicate ..
    have e1 : (((n + 1 : Nat) : Int) - 1) = (n : Int) := by omega
    have hrow := row_at (Z n) y [.int .u8 0]
    have hset := set_at (Z n) y [.int .u8 0] [.int .u8 (v % 256)]
    rw [hzl] at hrow hset
    rw [e42_0, hz, e1, Int.toNat_natCast, hrow, Int.tdiv_eq_ediv_of_nonneg h0, Int.tmod_eq_emod_of_nonneg h0, wrapu (n := v / 256) (by omega) (by omega), wrap64 (n := (n : Int) - 1) (by omega) (by omega), wrapu8_eq, Int.emod_emod_of_dvd _ (by decide)]
    have hs : setCells [Cell.int .u8 0] 0 [Cell.int .u8 (v % 256)] = [Cell.int .u8 (v % 256)] := rfl
    rw [hs, hset]
    have hl : n + 1 + y.length = n + ([Cell.int .u8 (v % 256)] :: y).length := by rw [List.length_cons]; omega
    rw [hl, bigF, List.append_assoc]
    refine ct (decide_eq_true (by omega)) (ct (inB_mk (by omega) (by rw [List.length_cons]; omega)) (ct (nblt_of (by simp)) ?_))
    exact hm

theorem k42 (v k : Int) (hv : okV v = true) (hk : okSz k = true) : ∃ m, runF E (callOf L26) m 42 [.one (.int .u64 v), .one (.int .i64 k)] [] = some ([.one (.msl 5 0 k.toNat)], [.arr 5 (bigF k.toNat v)]) := by
  have h := okV_of hv
  have hk' : (4 ≤ k ∧ k ≤ 8) := by rcases okSz_of hk with rfl | rfl <;> omega
  obtain ⟨m, hm⟩ := l42 k.toNat v [] h.1 h.2 (by omega)
  refine ⟨m + 1, ?_⟩
  rw [e42, wrap64 (n := k - 1) (by omega) (by omega)]
  simp only [List.append_nil, List.length_nil, Nat.add_zero] at hm
  rw [show ((k.toNat : Nat) : Int) = k by omega] at hm
  exact ct (okMake_mk (by omega) (by omega)) (ct (nblt_of (by omega)) hm)

theorem l75 (x : List (List Cell)) (hb : okB x = true) (hx : x.length ≤ 8) : ∀ (d i : Nat), i + d = x.length → ∃ m, goF E (callOf L42) F75 0 m P75_0 (M75_0 x (numF 0 (x.take i)) i) = some ([.one (.int .u64 (numF 0 x))], [])
  | 0, i, h => by
    refine ⟨1, ?_⟩
    rw [e75_0, List.take_of_length_le (by omega)]
    exact cf (decide_eq_false (by omega)) rfl
  | d + 1, i, h => by
    obtain ⟨m, hm⟩ := l75 x hb hx d (i + 1) (by omega)
    have hr := okB_at hb (i := i) (by omega)
    have hn := numF_bound (x.take i) 0 (okB_take hb _) (by omega)
    have hp : (256 : Int) ^ (x.take i).length ≤ 72057594037927936 := by
      have h7 : (x.take i).length < 8 := by rw [List.length_take]; omega
      have : ∀ j : Fin 8, (256 : Int) ^ j.val ≤ 72057594037927936 := by decide
      exact this ⟨_, h7⟩
    rw [take_succ' (by omega), numF_app] at hm
    refine ⟨m + 1, ?_⟩
    rw [e75_0, Int.toNat_natCast, wrap64 (n := (i : Int) + 1) (by omega) (by omega), wrapu (n := numF 0 (x.take i) * 256) (by omega) (by omega), wrapu (n := nr (Abs.rowAt x i) 0) (by omega) (by omega), wrapu (n := numF 0 (x.take i) * 256 + nr (Abs.rowAt x i) 0) (by omega) (by omega)]
    rw [show (i : Int) + 1 = ((i + 1 : Nat) : Int) by omega]
    exact ct (decide_eq_true (by omega)) (ct (inB_nat' (by omega)) hm)

theorem k75 (x : List (List Cell)) (hb : okB x = true) (hx : x.length ≤ 8) : ∃ m, runF E (callOf L42) m 75 [.one (.sl false 5 x)] [] = some ([.one (.int .u64 (numF 0 x))], []) := by
  obtain ⟨m, hm⟩ := l75 x hb hx x.length 0 (by omega)
  exact ⟨m + 1, by rw [e75]; exact hm⟩

theorem step43 {c : Int} (h0 : 0 ≤ c) (h1 : c < 4294967296) : (cond ((Int.tmod c 2) == 1) (xorI .u32 (IntKind.wrap .u32 (Int.tdiv c 2)) 2197175160) (IntKind.wrap .u32 (Int.tdiv c 2))) = crcBit c := by
  rw [crcBit_eq h0 h1, Int.tmod_eq_emod_of_nonneg h0, Int.tdiv_eq_ediv_of_nonneg h0, wrap32 (n := c / 2) (by omega) (by omega)]
  by_cases h : c % 2 = 0
  · rw [if_pos h, h]; rfl
  · rw [if_neg h, show c % 2 = 1 by omega]; rfl

theorem l43_1 (m : Nat) (x : List (List Cell)) (i : Int) : ∀ (d : Nat) (c t : Int), 0 ≤ c → c < 4294967296 → 0 ≤ t → t + d = 8 → goF E (callOf L75) F43 0 (m + (d + 1)) P43_1 (M43_1 x c i t) = goF E (callOf L75) F43 0 m P43_0 (M43_0 x (crcBits d c) (IntKind.wrap .i64 (i + 1)))
  | 0, c, t, hc0, hc1, h0, h => by
    rw [show m + (0 + 1) = m + 1 from rfl, e43_1]
    exact cf (decide_eq_false (by omega)) rfl
  | d + 1, c, t, hc0, hc1, h0, h => by
    have hr := crcBit_range hc0 hc1
    have ih := l43_1 m x i d (crcBit c) (t + 1) hr.1 hr.2 (by omega) (by omega)
    rw [show m + (d + 1 + 1) = (m + (d + 1)) + 1 from rfl, e43_1, wrap64 (n := t + 1) (by omega) (by omega)]
    refine ct (decide_eq_true (by omega)) ?_
    refine Eq.trans ?_ ih
    rw [← step43 hc0 hc1]
    cases ((Int.tmod c 2) == 1) <;> rfl

theorem l43_0 (x : List (List Cell)) (hx : x.length ≤ 1000000) : ∀ (d i : Nat) (c : Int), 0 ≤ c → c < 4294967296 → i + d = x.length → ∃ m, goF E (callOf L75) F43 0 m P43_0 (M43_0 x c i) = some ([.one (.int .u32 (xorI .u32 4294967295 (crcF c (x.drop i))))], [])
  | 0, i, c, _, _, h => by
    refine ⟨1, ?_⟩
    rw [e43_0, List.drop_eq_nil_of_le (by omega)]
    refine cf (decide_eq_false (by omega)) ?_
    rw [xor_comm32]
    rfl
  | d + 1, i, c, h0, h1, h => by
    have hx0 := xor_u32 c (IntKind.wrap .u32 (nr (Abs.rowAt x i) 0))
    have hb := crcBits_range 8 hx0.1 hx0.2
    obtain ⟨m, hm⟩ := l43_0 x hx d (i + 1) (crcBits 8 (xorI .u32 c (IntKind.wrap .u32 (nr (Abs.rowAt x i) 0)))) hb.1 hb.2 (by omega)
    refine ⟨m + 9 + 1, ?_⟩
    rw [e43_0, drop_cons x i (by omega), Int.toNat_natCast]
    refine ct (decide_eq_true (by omega)) (ct (inB_nat' (by omega)) ?_)
    rw [l43_1 m x _ 8 _ 0 hx0.1 hx0.2 (by omega) (by omega), wrap64 (by omega) (by omega)]
    exact hm

theorem k43 (x : List (List Cell)) (hx : x.length ≤ 1000000) : ∃ m, runF E (callOf L75) m 43 [.one (.sl false 5 x)] [] = some ([.one (.int .u32 (crcS x))], []) := by
  obtain ⟨m, hm⟩ := l43_0 x hx x.length 0 4294967295 (by omega) (by omega) (by omega)
  exact ⟨m + 1, by rw [e43]; exact hm⟩

theorem k76 (x y : List (List Cell)) : runF E (callOf L19) 1 76 [.one (.sl false 5 x), .one (.sl false 5 y)] [] = some ([.one (.bool ((toBytes x) == (toBytes y)))], []) := by rw [e76]

theorem l54 (x : List (List Cell)) (hx : x.length ≤ 1000000) : ∀ (d i : Nat), i + d = x.length → ∃ m, goF E (callOf L57) F54 0 m P54_0 (M54_0 x i) = some ([.one (.bool (zeroB (x.drop i)))], [])
  | 0, i, h => by
    refine ⟨1, ?_⟩
    rw [e54_0, List.drop_eq_nil_of_le (by omega)]
    exact cf (decide_eq_false (by omega)) rfl
  | d + 1, i, h => by
    obtain ⟨m, hm⟩ := l54 x hx d (i + 1) (by omega)
    refine ⟨m + 1, ?_⟩
    rw [e54_0, drop_cons x i (by omega), Int.toNat_natCast]
    refine ct (decide_eq_true (by omega)) (ct (inB_nat' (by omega)) ?_)
    have e : zeroB (Abs.rowAt x i :: x.drop (i + 1)) = ((nr (Abs.rowAt x i) 0 == 0) && zeroB (x.drop (i + 1))) := rfl
    rw [e]
    by_cases h0 : nr (Abs.rowAt x i) 0 = 0
    · refine cf (by simp [h0]) ?_
      rw [wrap64 (by omega) (by omega), h0]
      simpa using hm
    · refine ct (by simpa using h0) ?_
      have : (nr (Abs.rowAt x i) 0 == 0) = false := by simpa using h0
      rw [this, Bool.false_and]

theorem k54 (x : List (List Cell)) (hx : x.length ≤ 1000000) : ∃ m, runF E (callOf L57) m 54 [.one (.sl false 5 x)] [] = some ([.one (.bool (zeroB x))], []) := by
  obtain ⟨m, hm⟩ := l54 x hx x.length 0 (by omega)
  exact ⟨m + 1, by rw [e54]; simpa using hm⟩

end Go.Proofs.Ytpafnokcmhlbgaa

namespace Go.Proofs.Ytpafnokcmhlbgaa

open Go.Abs

abbrev rB (du qu : List (List Cell)) (dn am : Bool) (lf : Int) : Block := .var [.sl false 5 du, .sl true 99 qu, .bool dn, .bool am, .int .i64 lf]

theorem okR_of {d : Dk} (h : okR d = true) : DkOk d := by
  unfold okR at h
  simpa using h

theorem okR_mk {d : Dk} (h : DkOk d) : okR d = true := by
  unfold okR
  simpa using h

theorem k13 (n : Int) : runF E (callOf L54) 1 13 [.one (.int .i64 n)] [] = some ([.agg [.sl false 5 (newDk n).dur, .sl true 99 [], .bool false, .bool false, .int .i64 0]], []) := by
  obtain ⟨h1, h2, h3, h4⟩ := secN_of n
  have e : 32 * (if (if n < 2048 then n else 2048) > 1 then (if n < 2048 then n else 2048) else 1) = ((secN n : Nat) : Int) := by
    rw [h1]
    (repeat' split) <;> omega
  rw [e13, e, wrap64 (n := ((secN n : Nat) : Int)) (by omega) (by omega), Int.toNat_natCast]
  exact ct (okMake_mk (by omega) (by omega)) rfl

theorem k14 (du qu : List (List Cell)) (dn am : Bool) (lf : Int) (h : okR (rD du qu dn am lf) = true) : runF E (callOf L13) 1 14 [.one (.ptr 0 0)] [rB du qu dn am lf] = some ([.one (.int .i64 (secs du))], [rB du qu dn am lf]) := by
  have h1 : du.length ≤ 65536 := (okR_of h).le
  rw [e14, Int.tdiv_eq_ediv_of_nonneg (by omega), wrap64 (n := (du.length : Int) / 32) (by omega) (by omega)]
  have e : (du.length : Int) / 32 = secs du := by unfold secs; omega
  rw [e]

theorem k69 (o k : Int) (du qu : List (List Cell)) (dn am : Bool) (lf : Int) (h : okR (rD du qu dn am lf) = true) : runF E (callOf L14) 1 69 [.one (.ptr 0 0), .one (.int .i64 o), .one (.int .i64 k)] [rB du qu dn am lf] = some ([.one (.bool (rIn du o k))], [rB du qu dn am lf]) := by
  have h1 : du.length ≤ 65536 := (okR_of h).le
  rw [e69]
  unfold rIn
  by_cases a1 : 0 ≤ o
  rotate_left
  · rw [decide_eq_false (p := 0 ≤ o ∧ 0 ≤ k ∧ o ≤ du.length ∧ k ≤ du.length - o) (by omega)]
    exact cf (decide_eq_false (by omega)) rfl
  refine ct (decide_eq_true (by omega)) ?_
  by_cases a2 : 0 ≤ k
  rotate_left
  · rw [decide_eq_false (p := 0 ≤ o ∧ 0 ≤ k ∧ o ≤ du.length ∧ k ≤ du.length - o) (by omega)]
    exact cf (decide_eq_false (by omega)) rfl
  refine ct (decide_eq_true (by omega)) ?_
  by_cases a3 : o ≤ du.length
  rotate_left
  · rw [decide_eq_false (p := 0 ≤ o ∧ 0 ≤ k ∧ o ≤ du.length ∧ k ≤ du.length - o) (by omega)]
    exact cf (decide_eq_false (by omega)) rfl
  refine ct (decide_eq_true (by omega)) ?_
  rw [wrap64 (n := (du.length : Int) - o) (by omega) (by omega)]
  have e : decide (k ≤ (du.length : Int) - o) = decide (0 ≤ o ∧ 0 ≤ k ∧ o ≤ du.length ∧ k ≤ du.length - o) := by
    by_cases a4 : k ≤ (du.length : Int) - o
    · rw [decide_eq_true a4, decide_eq_true (by omega)]
    · rw [decide_eq_false a4, decide_eq_false (by omega)]
  rw [e]

theorem l25 (du qu : List (List Cell)) (dn am : Bool) (lf : Int) (hd : DkOk (rD du qu dn am lf)) : ∀ (k i : Nat) (b : List (List Cell)), i + k = qu.length → b.length = du.length → ∃ m, goF E (callOf L69) F25 1 m P25_0 (M25_0 du.length i du qu dn am lf b) = some ([.one (.sl false 5 (putQ b (qu.drop i)))], [rB du qu dn am lf]) := by
  have hq : qu.length ≤ 4000000 := hd.ql
  have hp : 32 ≤ du.length := hd.pos
  intro k
  induction k with
  | zero =>
    intro i b h hb
    refine ⟨1, ?_⟩
    rw [e25_0, List.drop_eq_nil_of_le (by omega)]
    exact cf (decide_eq_false (by omega)) (ct (nbeq_of hb.symm) rfl)
  | succ k ih =>
    intro i b h hb
    have hpc : okPc du.length (Abs.rowAt qu i) = true := hd.q _ (rowAt_mem (x := qu) (i := i) (by omega))
    have hh := okPc_of hpc
    obtain ⟨m, hm⟩ := ih (i + 1) (putR b (Abs.rowAt qu i)) (by omega) (by rw [putR_len hpc hb.symm]; exact hb)
    refine ⟨m + 1, ?_⟩
    rw [e25_0, drop_cons qu i (by omega), putQ, Int.toNat_natCast, put_eq hpc hb.symm, wrap64 (n := (i : Int) + 1) (by omega) (by omega)]
    have hin : inB (i : Int) qu.length = true := inB_nat' (by omega)
    refine ct (decide_eq_true (by omega)) (ct hin (ct (nblt_of (by omega)) (ct (inB_le (by omega) (by omega)) (ct hin (ct (nblt_of (by omega)) (ct (nble_of (by omega)) ?_))))))
    rw [show (i : Int) + 1 = ((i + 1 : Nat) : Int) by omega]
    exact hm

theorem k25 (du qu : List (List Cell)) (dn am : Bool) (lf : Int) (h : okR (rD du qu dn am lf) = true) : ∃ m, runF E (callOf L69) m 25 [.one (.ptr 0 0)] [rB du qu dn am lf] = some ([.one (.sl false 5 (putQ du qu))], [rB du qu dn am lf]) := by
  have hd := okR_of h
  have h1 : du.length ≤ 65536 := hd.le
  obtain ⟨m, hm⟩ := l25 du qu dn am lf hd qu.length 0 du (by omega) rfl
  refine ⟨m + 1, ?_⟩
  rw [e25]
  simp only [List.length_nil, Nat.zero_add, List.nil_append]
  exact ct (fits_mk (by omega)) hm

theorem k21 (du qu : List (List Cell)) (dn am : Bool) (lf : Int) (h : okR (rD du qu dn am lf) = true) : runF E (callOf L41) 1 21 [.one (.ptr 0 0)] [rB du qu dn am lf] =
    some ([.one (.int .i64 (rD du qu dn am lf).sync.e)], [rB (rD du qu dn am lf).sync.d.dur (rD du qu dn am lf).sync.d.q (rD du qu dn am lf).sync.d.down (rD du qu dn am lf).sync.d.arm (rD du qu dn am lf).sync.d.left]) := by
  rw [e21]
  unfold Dk.sync
  cases dn with
  | true => exact ct rfl rfl
  | false => exact cf rfl (ct h rfl)

theorem k58 (du qu : List (List Cell)) (dn am : Bool) (lf : Int) (h : okR (rD du qu dn am lf) = true) : runF E (callOf L21) 1 58 [.one (.ptr 0 0)] [rB du qu dn am lf] = some ([.one (.int .i64 (rD du qu dn am lf).half)], [rB du qu dn am lf]) := by
  have h1 : du.length ≤ 65536 := (okR_of h).le
  rw [e58]
  refine ct h ?_
  have e : IntKind.wrap .i64 (IntKind.wrap .i64 (Int.tdiv (secs du) 2) * 32) = (rD du qu dn am lf).half := by
    unfold secs Dk.half rD
    dsimp only
    rw [Int.tdiv_eq_ediv_of_nonneg (by omega), wrap64 (n := ((du.length / 32 : Nat) : Int) / 2) (by omega) (by omega), wrap64 (by omega) (by omega)]
    omega
  rw [e]

theorem k60 (du qu : List (List Cell)) (dn am : Bool) (lf : Int) (l : Lg) (h : okR (rD du qu dn am lf) = true) : runF E (callOf L23) 1 60 [.one (.ptr 0 0)] [lV 1 l, rB du qu dn am lf] = some ([.one (.int .i64 ((rD du qu dn am lf).half - 32))], [lV 1 l, rB du qu dn am lf]) := by
  have := half_of (okR_of h)
  rw [e60, wrap64 (n := (rD du qu dn am lf).half - 32) (by omega) (by omega)]
  exact ct h rfl

theorem k31 (du qu : List (List Cell)) (dn am : Bool) (lf : Int) (l : Lg) (h : okR (rD du qu dn am lf) = true) (hl : okLg (rD du qu dn am lf) l = true) : runF E (callOf L60) 1 31 [.one (.ptr 0 0)] [lV 1 l, rB du qu dn am lf] = some ([.one (.int .i64 (l.free (rD du qu dn am lf)))], [lV 1 l, rB du qu dn am lf]) := by
  have h1 := free_of (okR_of h) (okLg_of hl)
  unfold Lg.free at h1 ⊢
  rw [e31, wrap64 (n := (rD du qu dn am lf).half - 32 - l.fin) (by omega) (by omega)]
  exact ct h (ct (by simp [sb1_t]) rfl)

end Go.Proofs.Ytpafnokcmhlbgaa

namespace Go.Proofs.Ytpafnokcmhlbgaa

open Go.Abs

abbrev rV (d : Dk) : Block := rB d.dur d.q d.down d.arm d.left

theorem putQ_app : ∀ (p : List (List Cell)) (b : List (List Cell)) (r : List Cell), putQ b (p ++ [r]) = putR (putQ b p) r
  | [], _, _ => rfl
  | s :: p, b, r => putQ_app p (putR b s) r

theorem wrF_view : ∀ (k : Nat) (d : Dk) (o : Int) (x : List (List Cell)), d.cur = putQ d.dur d.q → (wrF k d o x).d.cur = putQ (wrF k d o x).d.dur (wrF k d o x).d.q
  | 0, d, o, x, h => h
  | k + 1, d, o, x, h => by
    rw [wrF]
    split
    · exact h
    · split
      · exact h
      · refine wrF_view k _ _ _ ?_
        show overL d.cur o.toNat _ = putQ d.dur (d.q ++ [pcR o _])
        rw [putQ_app, ← h]
        rfl

theorem write_view {d : Dk} (h : d.cur = putQ d.dur d.q) (o : Int) (x : List (List Cell)) : (d.write o x).d.cur = putQ (d.write o x).d.dur (d.write o x).d.q := by
  unfold Dk.write
  split
  · exact h
  · exact wrF_view _ d o x h

theorem rD_of {d : Dk} (h : d.cur = putQ d.dur d.q) : rD d.dur d.q d.down d.arm d.left = d := by
  unfold rD
  rw [← h]

theorem rD_view (du qu : List (List Cell)) (dn am : Bool) (lf : Int) : (rD du qu dn am lf).cur = putQ (rD du qu dn am lf).dur (rD du qu dn am lf).q := rfl

theorem l41 : ∀ (k : Nat) (d : Dk) (o : Int) (x : List (List Cell)), x.length ≤ k → 0 ≤ o → o + x.length ≤ 65536 → d.q.length + x.length ≤ 4000000 → 0 ≤ d.left ∧ d.left ≤ 9223372036854775807 →
    ∃ m, goF E (callOf L25) F41 1 m P41_0 (M41_0 o x d.dur d.q d.down d.arm d.left) = some ([.one (.int .i64 (wrF (k + 1) d o x).e)], [rV (wrF (k + 1) d o x).d]) := by
  intro k
  induction k with
  | zero =>
    intro d o x hx h0 ho hq hlf
    have hx0 : x = [] := List.eq_nil_of_length_eq_zero (by omega)
    subst hx0
    refine ⟨1, ?_⟩
    rw [e41_0, wrF_zero]
    exact cf (decide_eq_false (by simp)) rfl
  | succ k ih =>
    intro d o x hx h0 ho hq hlf
    by_cases hx0 : x.length = 0
    · have hx0 : x = [] := List.eq_nil_of_length_eq_zero (by omega)
      subst hx0
      refine ⟨1, ?_⟩
      rw [e41_0, wrF_zero]
      exact cf (decide_eq_false (by simp)) rfl
    obtain ⟨p1, p2, p3, p4⟩ := pcN_of (o := o) (n := x.length) h0 (by omega)
    obtain ⟨du, cu, qu, am, lf, dn⟩ := d
    dsimp only at *
    rw [wrF, if_neg hx0]
    generalize hp : pcN o x.length = p at p1 p2 p3 p4
    have fin : ∀ (lf' : Int), (0 ≤ lf' ∧ lf' ≤ 9223372036854775807) → ∃ m, goF E (callOf L25) F41 1 m P41_0 (M41_0 (o + p) (dropN x p) du (qu ++ [[Cell.int .i64 o, Cell.slice 5 (([] : List (List Cell)) ++ (takeN x p))]]) dn am lf') =
        some ([.one (.int .i64 (wrF (k + 1) ⟨du, overL cu o.toNat (x.take p), qu ++ [pcR o (x.take p)], am, lf', dn⟩ (o + p) (x.drop p)).e)], [rV (wrF (k + 1) ⟨du, overL cu o.toNat (x.take p), qu ++ [pcR o (x.take p)], am, lf', dn⟩ (o + p) (x.drop p)).d]) := by
      intro lf' hlf'
      rw [takeN_eq, dropN_eq, List.nil_append]
      exact ih ⟨du, overL cu o.toNat (x.take p), qu ++ [pcR o (x.take p)], am, lf', dn⟩ (o + p) (x.drop p) (by simp; omega) (by omega) (by simp; omega) (by simp; omega) hlf'
    have hf1 : fits (([] : List (List Cell)).length + (takeN x p).length) = true := fits_mk (by rw [takeN_eq]; simp; omega)
    have hf2 : fits (qu.length + [[Cell.int .i64 o, Cell.slice 5 (([] : List (List Cell)) ++ (takeN x p))]].length) = true := fits_mk (by simp; omega)
    have hin : inB (p : Int) (x.length + 1) = true := inB_le (by omega) (by omega)
    cases am with
    | true =>
      by_cases h3 : lf = 0
      · refine ⟨1, ?_⟩
        rw [e41_0, if_pos ⟨rfl, h3⟩]
        exact ct (decide_eq_true (by omega)) (ct rfl (ct (by simp [h3]) rfl))
      · rw [if_neg (by simp [h3]), if_pos rfl]
        obtain ⟨m, hm⟩ := fin (lf - 1) (by omega)
        refine ⟨m + 1, ?_⟩
        rw [e41_0]
        dsimp only
        rw [p4, wrap64 (n := o + (p : Int)) (by omega) (by omega), wrap64 (n := lf - 1) (by omega) (by omega), Int.toNat_natCast]
        exact ct (decide_eq_true (by omega)) (ct rfl (cf (by simpa using h3) (ct rfl (ct hin (ct hf1 (ct hf2 (ct hin hm)))))))
    | false =>
      rw [if_neg (by simp), if_neg (by simp)]
      obtain ⟨m, hm⟩ := fin lf hlf
      refine ⟨m + 1, ?_⟩
      rw [e41_0]
      dsimp only
      rw [p4, wrap64 (n := o + (p : Int)) (by omega) (by omega), Int.toNat_natCast]
      exact ct (decide_eq_true (by omega)) (cf rfl (cf rfl (ct hin (ct hf1 (ct hf2 (ct hin hm))))))

theorem k41 (o : Int) (x du qu : List (List Cell)) (dn am : Bool) (lf : Int) (h : okR (rD du qu dn am lf) = true) (hx : okWx (rD du qu dn am lf) x = true) : ∃ m, runF E (callOf L25) m 41 [.one (.ptr 0 0), .one (.int .i64 o), .one (.sl false 5 x)] [rB du qu dn am lf] =
    some ([.one (.int .i64 ((rD du qu dn am lf).write o x).e)], [rV ((rD du qu dn am lf).write o x).d]) := by
  have hd := okR_of h
  have h1 : du.length ≤ 65536 := hd.le
  have hcl : (rD du qu dn am lf).cur.length = du.length := hd.cd
  obtain ⟨hb, hq⟩ := okWx_of hx
  cases dn with
  | true =>
    refine ⟨1, ?_⟩
    rw [e41]
    have e : (rD du qu true am lf).chk o x.length = 15 := by unfold Dk.chk; rw [if_pos (show (rD du qu true am lf).down = true from rfl)]
    unfold Dk.write
    rw [e, if_pos (by simp)]
    exact ct rfl rfl
  | false =>
    by_cases hr : rIn du o x.length = true
    · have hr' := of_decide_eq_true hr
      have e : (rD du qu false am lf).chk o x.length = 0 := chk_mk rfl (by omega) (by omega) (by rw [hcl]; omega)
      unfold Dk.write
      rw [e, if_neg (by simp)]
      obtain ⟨m, hm⟩ := l41 x.length (rD du qu false am lf) o x (Nat.le_refl _) (by omega) (by omega) hq hd.left
      refine ⟨m + 1, ?_⟩
      rw [e41]
      exact cf rfl (ct h (cf (by rw [hr]; rfl) hm))
    · have hr' : ¬ (0 ≤ o ∧ 0 ≤ (x.length : Int) ∧ o ≤ du.length ∧ (x.length : Int) ≤ du.length - o) := of_decide_eq_false (by simpa [rIn] using hr)
      have e : (rD du qu false am lf).chk o x.length = 9 := by
        unfold Dk.chk
        rw [if_neg (by show ¬ false = true; simp), if_pos (by rw [hcl]; omega)]
      refine ⟨1, ?_⟩
      rw [e41]
      unfold Dk.write
      rw [e, if_pos (by simp)]
      exact cf rfl (ct h (ct (by simpa using hr) rfl))

theorem k56 (o : Int) (x du qu : List (List Cell)) (dn am : Bool) (lf : Int) (h : okR (rD du qu dn am lf) = true) (hx : okWx (rD du qu dn am lf) x = true) : runF E (callOf L55) 1 56 [.one (.ptr 0 0), .one (.int .i64 o), .one (.sl false 5 x)] [rB du qu dn am lf] =
    some ([.one (.int .i64 ((rD du qu dn am lf).store o x).e)], [rV ((rD du qu dn am lf).store o x).d]) := by
  have hd := okR_of h
  obtain ⟨hb, hq⟩ := okWx_of hx
  have hk := write_kept (o := o) hd hb hq
  have hv := rD_of (write_view (rD_view du qu dn am lf) o x)
  rw [e56]
  dsimp only
  rw [hv]
  unfold Dk.store
  by_cases h0 : ((rD du qu dn am lf).write o x).e = 0
  · rw [if_pos h0]
    exact ct (and_mk h hx) (cf (by simpa using h0) (ct (okR_mk hk.ok) rfl))
  · rw [if_neg h0]
    exact ct (and_mk h hx) (ct (by simpa using h0) rfl)

end Go.Proofs.Ytpafnokcmhlbgaa

namespace Go.Proofs.Ytpafnokcmhlbgaa

open Go.Abs

theorem k55 (s : Int) (du qu : List (List Cell)) (dn am : Bool) (lf : Int) (h : okR (rD du qu dn am lf) = true) (hs : okSeg s = true) (h128 : 128 ≤ du.length) : runF E (callOf L53) 1 55 [.one (.ptr 0 0), .one (.int .i64 s)] [rB du qu dn am lf] = some ([.one (.sl false 5 ((rD du qu dn am lf).area s))], [rB du qu dn am lf]) := by
  have hd := okR_of h
  have hh := half_of hd
  have hl : (rD du qu dn am lf).dur.length = du.length := rfl
  have h64 := hh.2.2.2 (by omega)
  have hpl : (putQ du qu).length = du.length := hd.cd
  have h1 : du.length ≤ 65536 := hd.le
  have hs' := seg_of hs
  have hsh := seg_half hd hs'
  have e1 : (s + 1) * (rD du qu dn am lf).half = s * (rD du qu dn am lf).half + (rD du qu dn am lf).half := by rw [Int.add_mul, Int.one_mul]
  rw [e55, wrap64 (n := s + 1) (by omega) (by omega), wrap64 (n := s * (rD du qu dn am lf).half) (by omega) (by omega), wrap64 (n := s * (rD du qu dn am lf).half + 32) (by omega) (by omega), wrap64 (n := (s + 1) * (rD du qu dn am lf).half) (by omega) (by omega)]
  exact ct h (ct h (ct h (ct (inB_le (by omega) (by omega)) (ct (inB_le (by omega) (by omega)) rfl))))

theorem k53 (s : Int) (du qu : List (List Cell)) (dn am : Bool) (lf : Int) (h : okR (rD du qu dn am lf) = true) (hs : okSeg s = true) (h128 : 128 ≤ du.length) : runF E (callOf L58) 1 53 [.one (.ptr 0 0), .one (.int .i64 s)] [rB du qu dn am lf] = some ([.one (.int .u64 ((rD du qu dn am lf).gen s))], [rB du qu dn am lf]) := by
  have hd := okR_of h
  have hh := half_of hd
  have hl : (rD du qu dn am lf).dur.length = du.length := rfl
  have h64 := hh.2.2.2 (by omega)
  have hpl : (putQ du qu).length = du.length := hd.cd
  have h1 : du.length ≤ 65536 := hd.le
  have hs' := seg_of hs
  have hsh := seg_half hd hs'
  have hbc : okB (putQ du qu) = true := hd.bc
  have et : takeN (dropN (putQ du qu) (Int.toNat (s * (rD du qu dn am lf).half))) 32 = subL (rD du qu dn am lf).cur (s * (rD du qu dn am lf).half).toNat (s * (rD du qu dn am lf).half + 32).toNat := by
    rw [takeN_eq, dropN_eq, subL_eq, List.drop_take]
    congr 1
    omega
  have hdl : (dropN (putQ du qu) (Int.toNat (s * (rD du qu dn am lf).half))).length = du.length - (s * (rD du qu dn am lf).half).toNat := by rw [dropN_eq, List.length_drop, hpl]
  rw [e53, wrap64 (n := s * (rD du qu dn am lf).half) (by omega) (by omega), et]
  have hbl : (subL (rD du qu dn am lf).cur (s * (rD du qu dn am lf).half).toNat (s * (rD du qu dn am lf).half + 32).toNat).length = 32 := by
    rw [subL_len (by show _ ≤ (putQ du qu).length; omega)]; omega
  have hbb : okB (subL (rD du qu dn am lf).cur (s * (rD du qu dn am lf).half).toNat (s * (rD du qu dn am lf).half + 32).toNat) = true := okB_sub hbc _ _
  have eg : (rD du qu dn am lf).gen s = wGen (subL (rD du qu dn am lf).cur (s * (rD du qu dn am lf).half).toNat (s * (rD du qu dn am lf).half + 32).toNat) := rfl
  rw [eg]
  generalize subL (rD du qu dn am lf).cur (s * (rD du qu dn am lf).half).toNat (s * (rD du qu dn am lf).half + 32).toNat = b at *
  have hsl : (subL b 4 12).length = 8 := by rw [subL_len (by omega)]
  have hr := wNum_range hbb (i := 4) (j := 12) (by omega) (by omega)
  rw [show (12 - 4 : Nat) = 8 from rfl, show (256 : Int) ^ 8 = 18446744073709551616 by decide] at hr
  refine ct h (ct h (ct (inB_le (by omega) (by omega)) (ct (inB_le (by omega) (by omega)) (ct (inB_le (by omega) (by omega)) (ct (and_mk (okB_sub hbb _ _) (pd_t (by omega))) (ct (okV_mk hr.1 hr.2) ?_))))))
  unfold wGen
  show cond (toBytes b == toBytes (wHdr (wNum b 4 12))) (some ([AV.one (AC.int .u64 (wNum b 4 12))], _)) _ = _
  by_cases he : toBytes (wHdr (wNum b 4 12)) = toBytes b
  · rw [if_pos he]
    exact ct (by rw [he]; simp) rfl
  · rw [if_neg he]
    exact cf (beq_eq_false_iff_ne.mpr fun hc => he hc.symm) rfl

theorem cut_okWx {d : Dk} {x : List (List Cell)} (h : okWx d x = true) (n : Nat) (a : Int) : okWx d (cutX x n a) = true := by
  obtain ⟨h1, h2⟩ := okWx_of h
  exact okWx_mk (okB_take h1 _) (by unfold cutX; rw [List.length_take]; omega)

theorem k16 (a : Int) (x : List (List Cell)) (un cn : Nat) (d : Dk) (ru rq : List (List Cell)) (rn ra : Bool) (rl : Int) (h : okDk un cn d = true) (hr : okR (rD ru rq rn ra rl) = true) (hx : okWx d x = true) (hy : okWx (rD ru rq rn ra rl) x = true) (ha : 0 ≤ a) (hb : a ≤ 1000000) :
    runF E (callOf L31) 1 16 [.one (.ptr 0 0), .one (.ptr 3 0), .one (.int .i64 a), .one (.sl false 5 x)] (dB un cn d ++ [rB ru rq rn ra rl]) = some ([], dB un cn (d.write a (cutX x ru.length a)).d ++ [rV ((rD ru rq rn ra rl).write a (cutX x ru.length a)).d]) := by
  have h1 : ru.length ≤ 65536 := (okR_of hr).le
  have e : takeN x (Int.toNat (if (if (ru.length : Int) - a < (x.length : Int) then (ru.length : Int) - a else (x.length : Int)) > 0 then (if (ru.length : Int) - a < (x.length : Int) then (ru.length : Int) - a else (x.length : Int)) else 0)) = cutX x ru.length a := by
    rw [takeN_eq]
    unfold cutX
    by_cases c : (ru.length : Int) - a < x.length
    · rw [if_pos c]
      congr 1
      split <;> omega
    · rw [if_neg c, List.take_of_length_le (i := ((ru.length : Int) - a).toNat) (by omega)]
      refine List.take_of_length_le ?_
      split <;> omega
  have hin : inB (if (if (ru.length : Int) - a < (x.length : Int) then (ru.length : Int) - a else (x.length : Int)) > 0 then (if (ru.length : Int) - a < (x.length : Int) then (ru.length : Int) - a else (x.length : Int)) else 0) (x.length + 1) = true :=
    inB_le (by (repeat' split) <;> omega) (by (repeat' split) <;> omega)
  show runF E (callOf L31) 1 16 _ [dV un cn d, .arr 5 d.dur, .arr 5 d.cur, rB ru rq rn ra rl] = _
  rw [e16]
  dsimp only
  rw [dk_eta, wrap64 (n := (ru.length : Int) - a) (by omega) (by omega), e]
  exact ct hin (ct (and_mk h (cut_okWx hx _ _)) (ct (and_mk hr (cut_okWx hy _ _)) rfl))

end Go.Proofs.Ytpafnokcmhlbgaa

namespace Go.Proofs.Ytpafnokcmhlbgaa

open Go.Abs

theorem okB_row {x : List (List Cell)} (h : okB x = true) {r : List Cell} (hr : r ∈ x) : r = [.int .u8 (nr r 0)] ∧ 0 ≤ nr r 0 ∧ nr r 0 < 256 := by
  have := isByte_nr (List.all_eq_true.1 h _ hr)
  exact ⟨this.2.2, this.1, this.2.1⟩

theorem ofBytes_toBytes : ∀ {x : List (List Cell)}, okB x = true → ofBytes (toBytes x) = x
  | [], _ => rfl
  | r :: x, h => by
    have hr := okB_row h List.mem_cons_self
    have hx : okB x = true := okB_drop h 1
    rw [toBytes, ofBytes, ofBytes_toBytes hx]
    congr 1
    have e : (rowByte r).toNat = (nr r 0).toNat := by
      show (UInt8.ofNat (cellAt r 0).toInt.toNat).toNat = _
      have : (cellAt r 0).toInt = nr r 0 := rfl
      rw [this, UInt8.toNat_ofNat']
      exact Nat.mod_eq_of_lt (by omega)
    rw [byteRow, e, hr.1]
    congr 2
    have : nr [Cell.int .u8 (nr r 0)] 0 = nr r 0 := rfl
    rw [this]
    omega

theorem toBytes_inj {x y : List (List Cell)} (hx : okB x = true) (hy : okB y = true) (h : toBytes x = toBytes y) : x = y := by
  rw [← ofBytes_toBytes hx, ← ofBytes_toBytes hy, h]

theorem big_num : ∀ (k : Nat) (t : List (List Cell)), okB t = true → t.length = k → bigF k (numF 0 t) = t
  | 0, t, _, h => by rw [List.eq_nil_of_length_eq_zero h]; rfl
  | k + 1, t, ho, h => by
    have ht : t = t.take k ++ [Abs.rowAt t k] := by
      rw [← take_succ' (by omega), List.take_of_length_le (by omega)]
    have hr := okB_row ho (rowAt_mem (x := t) (i := k) (by omega))
    have ih := big_num k (t.take k) (okB_take ho _) (by rw [List.length_take]; omega)
    have e : numF 0 t = numF 0 (t.take k) * 256 + nr (Abs.rowAt t k) 0 := by
      conv => lhs; rw [ht, numF_app]
      rfl
    rw [bigF, e]
    have e1 : (numF 0 (t.take k) * 256 + nr (Abs.rowAt t k) 0) / 256 = numF 0 (t.take k) := by omega
    have e2 : (numF 0 (t.take k) * 256 + nr (Abs.rowAt t k) 0) % 256 = nr (Abs.rowAt t k) 0 := by omega
    rw [e1, e2, ih, ← hr.1, ← ht]

theorem rec_enc {g o : Int} {b : List (List Cell)} (hb : okB b = true) (h0 : nr (Abs.rowAt b 0) 0 = 229) {n : Nat} (hn : wNum b 1 5 = n) (h1 : 1 ≤ n) (h2 : n ≤ 30000) (h3 : n + 10 ≤ b.length) :
    recB g o b = (subL b 5 (5 + n), toBytes (wEnc g o (subL b 5 (5 + n))) == toBytes (b.take (n + 10))) := by
  have hxl : (subL b 5 (5 + n)).length = n := by rw [subL_len (by omega)]; omega
  have htl : (subL b (5 + n) (9 + n)).length = 4 := by rw [subL_len (by omega)]; omega
  have hr0 := okB_row hb (rowAt_mem (x := b) (i := 0) (by omega))
  have hre := okB_row hb (rowAt_mem (x := b) (i := 9 + n) (by omega))
  have hox := okB_sub hb 5 (5 + n)
  have hot := okB_sub hb (5 + n) (9 + n)
  have hbn : bigF 4 (n : Int) = subL b 1 5 := by
    rw [← hn]
    exact big_num 4 _ (okB_sub hb _ _) (by rw [subL_len (by omega)])
  have hdec : b.take (n + 10) = [Cell.int .u8 229] :: (bigF 4 n ++ (subL b 5 (5 + n) ++ (subL b (5 + n) (9 + n) ++ [Abs.rowAt b (9 + n)]))) := by
    have q1 : b.take (n + 10) = b.take (9 + n) ++ [Abs.rowAt b (9 + n)] := by
      rw [show n + 10 = (9 + n) + 1 by omega]
      exact take_succ' (by omega)
    have q2 : b.take (9 + n) = b.take (5 + n) ++ subL b (5 + n) (9 + n) := by
      rw [subL_eq]
      have : b.take (5 + n) = (b.take (9 + n)).take (5 + n) := by rw [List.take_take, Nat.min_eq_left (by omega)]
      rw [this, List.take_append_drop]
    have q3 : b.take (5 + n) = b.take 5 ++ subL b 5 (5 + n) := by
      rw [subL_eq]
      have : b.take 5 = (b.take (5 + n)).take 5 := by rw [List.take_take, Nat.min_eq_left (by omega)]
      rw [this, List.take_append_drop]
    have q4 : b.take 5 = b.take 1 ++ subL b 1 5 := by
      rw [subL_eq]
      have : b.take 1 = (b.take 5).take 1 := by rw [List.take_take, Nat.min_eq_left (by omega)]
      rw [this, List.take_append_drop]
    have q5 : b.take 1 = [[Cell.int .u8 229]] := by
      have := take_succ' (x := b) (i := 0) (by omega)
      rw [this, hr0.1, h0]
      rfl
    rw [q1, q2, q3, q4, q5, hbn]
    simp
  have hfull : b = [Cell.int .u8 229] :: (bigF 4 n ++ (subL b 5 (5 + n) ++ (subL b (5 + n) (9 + n) ++ (Abs.rowAt b (9 + n) :: b.drop (n + 10))))) := by
    conv => lhs; rw [← List.take_append_drop (n + 10) b, hdec]
    simp
  have hraw := recB_raw (g := g) (o := o) (x := subL b 5 (5 + n)) (t := subL b (5 + n) (9 + n)) (e := Abs.rowAt b (9 + n)) (rest := b.drop (n + 10)) (by omega) (by omega) htl
  rw [hxl, ← hfull] at hraw
  rw [hraw, hdec]
  congr 1
  have hw := wSum_range g o (subL b 5 (5 + n))
  have hwe : wEnc g o (subL b 5 (5 + n)) = [Cell.int .u8 229] :: (bigF 4 n ++ (subL b 5 (5 + n) ++ (bigF 4 (wSum g o (subL b 5 (5 + n))) ++ [[.int .u8 255]]))) := by
    unfold wEnc
    rw [hxl]
  have hod : okB ([Cell.int .u8 229] :: (bigF 4 n ++ (subL b 5 (5 + n) ++ (subL b (5 + n) (9 + n) ++ [Abs.rowAt b (9 + n)])))) = true := by
    rw [← hdec]; exact okB_take hb _
  have how : okB (wEnc g o (subL b 5 (5 + n))) = true := wEnc_okB _ _ hox
  rw [hwe] at how ⊢
  generalize subL b (5 + n) (9 + n) = t at *
  generalize Abs.rowAt b (9 + n) = e at *
  generalize wSum g o (subL b 5 (5 + n)) = s at *
  by_cases c : numF 0 t = s ∧ nr e 0 = 255
  · have e1 := big_num 4 t hot htl
    rw [c.1] at e1
    rw [c.2] at hre
    rw [decide_eq_true c.1, decide_eq_true c.2, e1, hre.1]
    have : nr [Cell.int .u8 255] 0 = 255 := rfl
    simp
  · have hf : (decide (numF 0 t = s) && decide (nr e 0 = 255)) = false := by
      rw [← Bool.decide_and, decide_eq_false c]
    rw [hf]
    refine (beq_eq_false_iff_ne.mpr fun hc => c ?_).symm
    have h5 := toBytes_inj how hod hc
    have h6 : bigF 4 s ++ [[Cell.int .u8 255]] = t ++ [e] := by
      have := (List.cons.inj h5).2
      exact List.append_cancel_left (List.append_cancel_left this)
    obtain ⟨h7, h8⟩ := List.append_inj h6 (by rw [bigF_len, htl])
    rw [← h7, ← (List.cons.inj h8).1, numF_big 4 0 _ hw.1 (by rw [show (256 : Int) ^ 4 = 4294967296 by decide]; exact hw.2)]
    exact ⟨by omega, rfl⟩

end Go.Proofs.Ytpafnokcmhlbgaa

namespace Go.Proofs.Ytpafnokcmhlbgaa

open Go.Abs

theorem l43_1b (m : Nat) (x : List (List Cell)) (n : Nat) (i : Int) : ∀ (d : Nat) (c t : Int), 0 ≤ c → c < 4294967296 → 0 ≤ t → t + d = 8 → goF E (callOf L75) F43 1 (m + (d + 1)) P43_1_c1 (M43_1_c1 n c i t x) = goF E (callOf L75) F43 1 m P43_0_c1 (M43_0_c1 n (crcBits d c) (IntKind.wrap .i64 (i + 1)) x)
  | 0, c, t, hc0, hc1, h0, h => by
    rw [show m + (0 + 1) = m + 1 from rfl, e43_1_c1]
    exact cf (decide_eq_false (by omega)) rfl
  | d + 1, c, t, hc0, hc1, h0, h => by
    have hr := crcBit_range hc0 hc1
    have ih := l43_1b m x n i d (crcBit c) (t + 1) hr.1 hr.2 (by omega) (by omega)
    rw [show m + (d + 1 + 1) = (m + (d + 1)) + 1 from rfl, e43_1_c1, wrap64 (n := t + 1) (by omega) (by omega)]
    refine ct (decide_eq_true (by omega)) ?_
    refine Eq.trans ?_ ih
    rw [← step43 hc0 hc1]
    cases ((Int.tmod c 2) == 1) <;> rfl

theorem l43_0b (x : List (List Cell)) (hx : x.length ≤ 1000000) : ∀ (d i : Nat) (c : Int), 0 ≤ c → c < 4294967296 → i + d = x.length → ∃ m, goF E (callOf L75) F43 1 m P43_0_c1 (M43_0_c1 x.length c i x) = some ([.one (.int .u32 (xorI .u32 4294967295 (crcF c (x.drop i))))], [.arr 5 x])
  | 0, i, c, _, _, h => by
    refine ⟨1, ?_⟩
    rw [e43_0_c1, List.drop_eq_nil_of_le (by omega)]
    refine cf (decide_eq_false (by omega)) ?_
    rw [xor_comm32]
    rfl
  | d + 1, i, c, h0, h1, h => by
    have hx0 := xor_u32 c (IntKind.wrap .u32 (nr (Abs.rowAt x i) 0))
    have hb := crcBits_range 8 hx0.1 hx0.2
    obtain ⟨m, hm⟩ := l43_0b x hx d (i + 1) (crcBits 8 (xorI .u32 c (IntKind.wrap .u32 (nr (Abs.rowAt x i) 0)))) hb.1 hb.2 (by omega)
    refine ⟨m + 9 + 1, ?_⟩
    rw [e43_0_c1, drop_cons x i (by omega), Int.toNat_natCast]
    refine ct (decide_eq_true (by omega)) (ct (inB_nat' (by omega)) (ct (nblt_of (by omega)) ?_))
    rw [l43_1b m x _ _ 8 _ 0 hx0.1 hx0.2 (by omega) (by omega), wrap64 (by omega) (by omega)]
    exact hm

theorem k43b (n : Nat) (x : List (List Cell)) (hx : x.length ≤ 1000000) (hn : n = x.length) : ∃ m, runF E (callOf L75) m 43 [.one (.msl 5 0 n)] [.arr 5 x] = some ([.one (.int .u32 (crcS x))], [.arr 5 x]) := by
  subst hn
  obtain ⟨m, hm⟩ := l43_0b x hx x.length 0 4294967295 (by omega) (by omega) (by omega)
  exact ⟨m + 1, by rw [e43_c1]; exact hm⟩

theorem k17 (g : Int) (hg : okV g = true) : runF E (callOf L43) 1 17 [.one (.int .u64 g)] [] = some ([.one (.sl false 5 (wHdr g))], []) := by
  rw [e17]
  dsimp only
  rw [← wMag_eq, show Int.toNat 8 = 8 from rfl, show Int.toNat 4 = 4 from rfl]
  have hcr := crcS_range (wMag ++ bigF 8 g)
  have hm := wMag_len
  have hb8 := bigF_len 8 g
  have hlen : (wMag ++ bigF 8 g).length = 12 := by rw [List.length_append]; omega
  have hok : okB (wMag ++ bigF 8 g) = true := okB_app wMag_okB (bigF_okB _ _)
  rw [wrapu (n := crcS (wMag ++ bigF 8 g)) (by omega) (by omega)]
  have hb4 := bigF_len 4 (crcS (wMag ++ bigF 8 g))
  refine ct (and_mk hg rfl) (ct (nbeq_of hb8.symm) (ct (fits_mk (by omega)) (ct (and_mk (and_mk hok (pd_t (by omega))) (nbeq_of List.length_append.symm)) (ct (and_mk (okV_mk (by omega) (by omega)) rfl) (ct (nbeq_of hb4.symm) (ct (nbeq_of List.length_append.symm) (ct (fits_mk (by omega)) (ct (nbeq_of List.length_append.symm) (ct (fits_mk (by rw [List.length_append]; omega)) (ct (nbeq_of (by rw [List.length_append (bs := List.replicate _ _), List.length_replicate])) ?_))))))))))
  simp only [wHdr, List.append_assoc]

theorem k19 (g o : Int) (x : List (List Cell)) (hg : okV g = true) (ho0 : 0 ≤ o) (ho : o ≤ 4611686018427387904) (hb : okB x = true) (hx : x.length ≤ 30000) :
    runF E (callOf L17) 1 19 [.one (.int .u64 g), .one (.int .i64 o), .one (.sl false 5 x)] [] = some ([.one (.sl false 5 (wEnc g o x))], []) := by
  rw [e19]
  dsimp only
  rw [show Int.toNat 8 = 8 from rfl, show Int.toNat 4 = 4 from rfl, wrapu (n := (x.length : Int)) (by omega) (by omega), wrapu (n := o) (by omega) (by omega)]
  have hw := wSum_range g o x
  have es : (((bigF 8 g) ++ (bigF 4 o)) ++ (bigF 4 (x.length : Int))) ++ x = bigF 8 g ++ (bigF 4 o ++ (bigF 4 x.length ++ x)) := by simp only [List.append_assoc]
  have hs : crcS ((((bigF 8 g) ++ (bigF 4 o)) ++ (bigF 4 (x.length : Int))) ++ x) = wSum g o x := by rw [es]; rfl
  rw [hs, wrapu (n := wSum g o x) (by omega) (by omega)]
  have j8 := bigF_len 8 g
  have j4 := bigF_len 4 o
  have ln := bigF_len 4 (x.length : Int)
  have lw := bigF_len 4 (wSum g o x)
  have q1 : ((bigF 8 g) ++ (bigF 4 o)).length = 12 := by rw [List.length_append]; omega
  have q2 : (((bigF 8 g) ++ (bigF 4 o)) ++ (bigF 4 (x.length : Int))).length = 16 := by rw [List.length_append]; omega
  have q3 : ((((bigF 8 g) ++ (bigF 4 o)) ++ (bigF 4 (x.length : Int))) ++ x).length = 16 + x.length := by rw [List.length_append]; omega
  have q4 : ([[Cell.int .u8 229]] ++ (bigF 4 (x.length : Int))).length = 5 := by rw [List.length_append, ln]; rfl
  have q5 : (([[Cell.int .u8 229]] ++ (bigF 4 (x.length : Int))) ++ x).length = 5 + x.length := by rw [List.length_append]; omega
  have q6 : ((([[Cell.int .u8 229]] ++ (bigF 4 (x.length : Int))) ++ x) ++ bigF 4 (wSum g o x)).length = 9 + x.length := by rw [List.length_append]; omega
  have o1 : okB ((((bigF 8 g) ++ (bigF 4 o)) ++ (bigF 4 (x.length : Int))) ++ x) = true := okB_app (okB_app (okB_app (bigF_okB _ _) (bigF_okB _ _)) (bigF_okB _ _)) hb
  have f1 : [[Cell.int .u8 229]].length = 1 := rfl
  have f2 : [[Cell.int .u8 255]].length = 1 := rfl
  refine ct (and_mk (okV_mk (by omega) (by omega)) rfl) (ct (and_mk hg rfl) (ct (and_mk (okV_mk (by omega) (by omega)) rfl) (ct (nbeq_of j4.symm) (ct (nbeq_of j8.symm) (ct (fits_mk (by omega)) (ct (nbeq_of ln.symm) (ct (nbeq_of List.length_append.symm) (ct (fits_mk (by omega)) (ct (nbeq_of List.length_append.symm) (ct (fits_mk (by omega)) (ct (nbeq_of ln.symm) (ct (fits_mk (by omega)) (ct (fits_mk (by omega)) (ct (and_mk (and_mk o1 (pd_t (by omega))) (nbeq_of List.length_append.symm)) (ct (and_mk (okV_mk (by omega) (by omega)) rfl) (ct (nbeq_of lw.symm) (ct (fits_mk (by omega)) (ct (fits_mk (by omega)) ?_))))))))))))))))))
  simp only [wEnc, List.append_assoc, List.cons_append, List.nil_append]

theorem recB_no {g o : Int} {b : List (List Cell)} (h : b.length < 10 ∨ nr (Abs.rowAt b 0) 0 ≠ 229 ∨ (10 ≤ b.length ∧ (wNum b 1 5 < 1 ∨ 30000 < wNum b 1 5 ∨ (b.length : Int) - 10 < wNum b 1 5))) : (recB g o b).2 = false := by
  unfold recB
  split
  · rfl
  · rw [if_pos]
    rename_i hc
    have : ¬ b.length < 10 := fun h => hc (.inl (by omega))
    rcases h with h | h | h
    · exact absurd h this
    · exact absurd (.inr h) hc
    · exact h.2

theorem l57 (x : List (List Cell)) (g : Int) (hg : okV g = true) (hb : okB x = true) (hx : x.length ≤ 1000000) : ∀ (d i : Nat) (acc : List (List Cell)), i + d = x.length → acc.length ≤ i →
    ∃ m, goF E (callOf L76) F57 0 m P57_0 (M57_0 g x acc i) = some ([.one (.sl true 22 (acc ++ (scanF d g i (x.drop i)).1)), .one (.int .i64 (scanF d g i (x.drop i)).2)], []) := by
  intro d
  induction d using Nat.strongRecOn with
  | ind d ih =>
    intro i acc h ha
    have hbd : okB (x.drop i) = true := okB_drop hb i
    have hld : (x.drop i).length = d := by rw [List.length_drop]; omega
    have hno : (recB g i (x.drop i)).2 = false → acc ++ (scanF d g i (x.drop i)).1 = acc ∧ (scanF d g i (x.drop i)).2 = i := fun hc => by
      cases d with
      | zero => simp [scanF]
      | succ d => simp [scanF, hc]
    have hr0 : ∀ j, Abs.rowAt (x.drop i) j = Abs.rowAt x (i + j) := fun j => rowAt_drop _ _ _
    have h10 : IntKind.wrap .i64 ((i : Int) + 10) = (i : Int) + 10 := wrap64 (by omega) (by omega)
    have h1 : IntKind.wrap .i64 ((i : Int) + 1) = ((i + 1 : Nat) : Int) := by rw [wrap64 (by omega) (by omega)]; omega
    have h5 : IntKind.wrap .i64 ((i : Int) + 5) = ((i + 5 : Nat) : Int) := by rw [wrap64 (by omega) (by omega)]; omega
    by_cases c1 : d < 10
    · obtain ⟨r1, r2⟩ := hno (recB_no (.inl (by omega)))
      refine ⟨1, ?_⟩
      rw [e57_0, h10, r1, r2]
      exact cf (decide_eq_false (by omega)) rfl
    by_cases c2 : nr (Abs.rowAt x i) 0 = 229
    rotate_left
    · obtain ⟨r1, r2⟩ := hno (recB_no (.inr (.inl (by rw [hr0]; exact c2))))
      refine ⟨1, ?_⟩
      rw [e57_0, h10, r1, r2]
      exact ct (decide_eq_true (by omega)) (ct (inB_nat' (by omega)) (cf (by rw [Int.toNat_natCast]; exact beq_eq_false_iff_ne.mpr c2) rfl))
    have hs1 : subL x (i + 1) (i + 5) = subL (x.drop i) 1 5 := by
      rw [subL_eq, subL_eq, List.take_drop, List.drop_drop]
    have hz : wNum (x.drop i) 1 5 = numF 0 (subL x (i + 1) (i + 5)) := by rw [hs1]; rfl
    have hzl : (subL x (i + 1) (i + 5)).length = 4 := by rw [subL_len (by omega)]; omega
    have hzr := numF_bound (subL x (i + 1) (i + 5)) 0 (okB_sub hb _ _) (by omega)
    rw [hzl, show (256 : Int) ^ 4 = 4294967296 by decide] at hzr
    have hin1 : inB ((i + 5 : Nat) : Int) (x.length + 1) = true := inB_nat' (by omega)
    have hin2 : inB ((i + 1 : Nat) : Int) (i + 5 + 1) = true := inB_nat' (by omega)
    have hg2 : (okB (subL x (i + 1) (i + 5)) && pd ((subL x (i + 1) (i + 5)).length ≤ 8)) = true := and_mk (okB_sub hb _ _) (pd_t (by omega))
    generalize hn : numF 0 (subL x (i + 1) (i + 5)) = n at *
    by_cases c3 : n < 1 ∨ 30000 < n ∨ (d : Int) - 10 < n
    · obtain ⟨r1, r2⟩ := hno (recB_no (.inr (.inr ⟨by omega, by rw [hz, hld]; exact c3⟩)))
      refine ⟨1, ?_⟩
      rw [e57_0, h10, h1, h5, r1, r2]
      dsimp only
      rw [Int.toNat_natCast, Int.toNat_natCast, Int.toNat_natCast, hn, wrap64 (n := n) (by omega) (by omega), wrap64 (n := (x.length : Int) - i) (by omega) (by omega), wrap64 (n := (x.length : Int) - i - 10) (by omega) (by omega)]
      refine ct (decide_eq_true (by omega)) (ct (inB_nat' (by omega)) (ct (by rw [c2]; rfl) (ct hin1 (ct hin2 (ct hg2 ?_)))))
      by_cases c4 : n < 1
      · exact ct (decide_eq_true c4) rfl
      refine cf (decide_eq_false c4) ?_
      by_cases c5 : n > 30000
      · exact ct (decide_eq_true c5) rfl
      exact cf (decide_eq_false c5) (ct (decide_eq_true (by omega)) rfl)
    obtain ⟨k, rfl⟩ := Int.eq_ofNat_of_zero_le (show 0 ≤ n by omega)
    have hrec := rec_enc (g := g) (o := i) hbd (by rw [hr0]; exact c2) hz (by omega) (by omega) (by omega)
    have hs2 : subL x (i + 5) (i + 5 + k) = subL (x.drop i) 5 (5 + k) := by
      rw [subL_eq, subL_eq, List.take_drop, List.drop_drop, Nat.add_assoc]
    have hs3 : subL x i (i + (k + 10)) = (x.drop i).take (k + 10) := by
      rw [subL_eq, List.take_drop]
    have hyl : (subL x (i + 5) (i + 5 + k)).length = k := by rw [subL_len (by omega)]; omega
    have hyo : okB (subL x (i + 5) (i + 5 + k)) = true := okB_sub hb _ _
    rw [← hs2] at hrec
    rw [← hs3] at hrec
    generalize hy : subL x (i + 5) (i + 5 + k) = y at *
    have hel : ((wEnc g i y).length : Int) = ((k + 10 : Nat) : Int) := by rw [wEnc_len]; omega
    have step : ∀ m, goF E (callOf L76) F57 0 (m + 1) P57_0 (M57_0 g x acc i) = (cond (!((toBytes (wEnc g i y)) == (toBytes (subL x i (i + (k + 10)))))) (some ([.one (.sl true 22 acc), .one (.int .i64 i)], [])) (goF E (callOf L76) F57 0 m P57_0 (M57_0 g x (acc ++ [[Cell.slice 5 y]]) ((i + (k + 10) : Nat) : Int)))) := fun m => by
      rw [e57_0, h10, h1, h5]
      dsimp only
      rw [Int.toNat_natCast, Int.toNat_natCast, Int.toNat_natCast, hn, wrap64 (n := ((k : Nat) : Int)) (by omega) (by omega), wrap64 (n := (x.length : Int) - i) (by omega) (by omega), wrap64 (n := (x.length : Int) - i - 10) (by omega) (by omega), wrap64 (n := ((i + 5 : Nat) : Int) + (k : Int)) (by omega) (by omega)]
      have e5 : Int.toNat (((i + 5 : Nat) : Int) + (k : Int)) = i + 5 + k := by omega
      rw [e5, hy, List.nil_append, hel, wrap64 (n := (i : Int) + ((k + 10 : Nat) : Int)) (by omega) (by omega)]
      have e6 : Int.toNat ((i : Int) + ((k + 10 : Nat) : Int)) = i + (k + 10) := by omega
      have e7 : (i : Int) + ((k + 10 : Nat) : Int) = ((i + (k + 10) : Nat) : Int) := by omega
      rw [e6, e7]
      refine ct (decide_eq_true (by omega)) (ct (inB_nat' (by omega)) (ct (by rw [c2]; rfl) (ct hin1 (ct hin2 (ct hg2 (cf (decide_eq_false (by omega)) (cf (decide_eq_false (by omega)) (cf (decide_eq_false (by omega)) (ct (inB_le (by omega) (by omega)) (ct (inB_le (by omega) (by omega)) (ct (fits_mk (by rw [List.length_nil]; omega)) (ct (and_mk hg (and_mk hyo (and_mk (pd_t (by omega)) (and_mk (pd_t (by omega)) (pd_t (by omega)))))) (ct (inB_nat' (by omega)) (ct (inB_nat' (by omega)) ?_))))))))))))))
      rw [fits_mk (n := acc.length + [[Cell.slice 5 y]].length) (by rw [List.length_cons, List.length_nil]; omega), cond_true]
    cases hq : (toBytes (wEnc g i y) == toBytes (subL x i (i + (k + 10)))) with
    | false =>
      obtain ⟨r1, r2⟩ := hno (by rw [hrec]; exact hq)
      refine ⟨1, ?_⟩
      rw [step, hq, r1, r2]
      rfl
    | true =>
      rw [hq] at hrec
      cases d with
      | zero => omega
      | succ d =>
        obtain ⟨m, hm⟩ := ih (d + 1 - (k + 10)) (by omega) (i + (k + 10)) (acc ++ [wRow y]) (by omega) (by rw [List.length_append]; simp; omega)
        refine ⟨m + 1, ?_⟩
        rw [step, hq]
        refine Eq.trans hm ?_
        have hsc := scanF_fuel (g := g) (b := x.drop (i + (k + 10))) (okB_drop hb _) (d + 1 - (k + 10)) d (o := ((i + (k + 10) : Nat) : Int)) (by rw [List.length_drop]; omega) (by rw [List.length_drop]; omega)
        rw [scanF, hrec, if_pos rfl]
        dsimp only
        rw [hyl, List.drop_drop, show (i : Int) + (k : Nat) + 10 = ((i + (k + 10) : Nat) : Int) by omega, hsc]
        simp only [List.append_assoc, List.cons_append, List.nil_append]

theorem k57 (g : Int) (x : List (List Cell)) (hg : okV g = true) (hb : okB x = true) (hx : x.length ≤ 1000000) : ∃ m, runF E (callOf L76) m 57 [.one (.int .u64 g), .one (.sl false 5 x)] [] = some ([.one (.sl true 22 (wScan g x).1), .one (.int .i64 (wScan g x).2)], []) := by
  obtain ⟨m, hm⟩ := l57 x g hg hb hx x.length 0 [] (by omega) (by simp)
  exact ⟨m + 1, by rw [e57]; simpa [wScan] using hm⟩

end Go.Proofs.Ytpafnokcmhlbgaa

namespace Go.Proofs.Ytpafnokcmhlbgaa

open Go.Abs

set_option maxRecDepth 20000

noncomputable def P3_0 : List AItem := F3.at [.snd, .snd, .snd, .snd, .snd, .snd, .fst, .snd, .sub, .head]

def M3_0 (t2 : List (List Cell)) (t3 : Int) (t4 : Int) (t5 : List (List Cell)) (t6 : Int) (t18 : Int) (t19 : List (List Cell)) (t20 : Int) (b0 : Nat) (b0_1 : Nat) (b0_2 : List (List Cell)) (b0_3 : Bool) (b0_4 : Int) (b0_5 : Bool) (b1 : List (List Cell)) (b2 : List (List Cell)) (b3 : List (List Cell)) (b3_1 : List (List Cell)) (b3_2 : Bool) (b3_3 : Bool) (b3_4 : Int) : St := ⟨[(2, .one (.sl false 5 t2)), (3, .one (.int .i64 t3)), (4, .one (.int .i64 t4)), (5, .one (.sl false 22 t5)), (6, .one (.int .i64 t6)), (16, .one (.ptr 0 0)), (17, .one (.ptr 3 0)), (18, .one (.int .i64 t18)), (19, .one (.sl false 5 t19)), (20, .one (.int .i64 t20))], [.var [.msl 5 1 b0, .msl 5 2 b0_1, .sl true 85 b0_2, .bool b0_3, .int .i64 b0_4, .bool b0_5], .arr 5 b1, .arr 5 b2, .var [.sl false 5 b3, .sl true 99 b3_1, .bool b3_2, .bool b3_3, .int .i64 b3_4]]⟩

noncomputable def P3_1 : List AItem := F3.at [.snd, .snd, .snd, .snd, .snd, .snd, .fst, .snd, .sub, .body, .snd, .fst, .sub, .snd, .snd, .snd, .snd, .fst, .snd, .sub, .head]

def M3_1 (t2 : List (List Cell)) (t3 : Int) (t4 : Int) (t5 : List (List Cell)) (t6 : Int) (t18 : Int) (t19 : List (List Cell)) (t20 : Int) (t21 : Int) (t22 : Int) (t23 : List (List Cell)) (t24 : Int) (b0 : Nat) (b0_1 : Nat) (b0_2 : List (List Cell)) (b0_3 : Bool) (b0_4 : Int) (b0_5 : Bool) (b1 : List (List Cell)) (b2 : List (List Cell)) (b3 : List (List Cell)) (b3_1 : List (List Cell)) (b3_2 : Bool) (b3_3 : Bool) (b3_4 : Int) : St := ⟨[(2, .one (.sl false 5 t2)), (3, .one (.int .i64 t3)), (4, .one (.int .i64 t4)), (5, .one (.sl false 22 t5)), (6, .one (.int .i64 t6)), (16, .one (.ptr 0 0)), (17, .one (.ptr 3 0)), (18, .one (.int .i64 t18)), (19, .one (.sl false 5 t19)), (20, .one (.int .i64 t20)), (21, .one (.int .u64 t21)), (22, .one (.int .i64 t22)), (23, .one (.sl false 22 t23)), (24, .one (.int .i64 t24))], [.var [.msl 5 1 b0, .msl 5 2 b0_1, .sl true 85 b0_2, .bool b0_3, .int .i64 b0_4, .bool b0_5], .arr 5 b1, .arr 5 b2, .var [.sl false 5 b3, .sl true 99 b3_1, .bool b3_2, .bool b3_3, .int .i64 b3_4]]⟩

noncomputable def P3_2 : List AItem := F3.at [.snd, .snd, .snd, .snd, .snd, .snd, .snd, .snd]

def M3_2 (b0 : Nat) (b0_1 : Nat) (b0_2 : List (List Cell)) (b0_3 : Bool) (b0_4 : Int) (b0_5 : Bool) (b1 : List (List Cell)) (b2 : List (List Cell)) (b3 : List (List Cell)) (b3_1 : List (List Cell)) (b3_2 : Bool) (b3_3 : Bool) (b3_4 : Int) : St := ⟨[(16, .one (.ptr 0 0)), (17, .one (.ptr 3 0))], [.var [.msl 5 1 b0, .msl 5 2 b0_1, .sl true 85 b0_2, .bool b0_3, .int .i64 b0_4, .bool b0_5], .arr 5 b1, .arr 5 b2, .var [.sl false 5 b3, .sl true 99 b3_1, .bool b3_2, .bool b3_3, .int .i64 b3_4]]⟩

theorem e3 (m : Nat) (z : Int) (a b : List (List Cell)) (g j : Int) (r : List (List Cell)) (w : Int) : runF E (callOf L23b) (m + 1) 3 [.one (.int .i64 z), .one (.sl false 5 a), .one (.sl false 5 b), .one (.int .i64 g), .one (.int .i64 j), .one (.sl false 22 r), .one (.int .i64 w)] [] =
  (cond (pd (16 < (4611686018427387904 : Int)))
  (cond (okR (rD (Dk.dur (newDk (gIndex z 16))) ([] : List (List Cell)) false false 0))
  (cond (pd ((0 : Int) ≤ 200) && pd (200 ≤ (1000 : Int)))
  (goF E (callOf L23b) F3 0 m P3_0 (M3_0 b g j r w (IntKind.wrap .i64 ((IntKind.wrap .i64 (Int.tdiv (secs (Dk.dur (newDk (gIndex z 16)))) 2)) * 32)) (a.take (Int.toNat 200)) 0 (secN (gIndex z 16)) (secN (gIndex z 16)) (Dk.q (newDk (gIndex z 16))) (Dk.arm (newDk (gIndex z 16))) (Dk.left (newDk (gIndex z 16))) (Dk.down (newDk (gIndex z 16))) (Dk.dur (newDk (gIndex z 16))) (Dk.cur (newDk (gIndex z 16))) (Dk.dur (newDk (gIndex z 16))) ([] : List (List Cell)) false false 0))
  none)
  none)
  none) := by kernel_rfl

theorem e3_0 (m : Nat) (t2 : List (List Cell)) (t3 t4 : Int) (t5 : List (List Cell)) (t6 t18 : Int) (t19 : List (List Cell)) (t20 : Int) (b0 b0_1 : Nat) (b0_2 : List (List Cell)) (b0_3 : Bool) (b0_4 : Int) (b0_5 : Bool) (b1 b2 b3 b3_1 : List (List Cell)) (b3_2 b3_3 : Bool) (b3_4 : Int) : goF E (callOf L23b) F3 0 (m + 1) P3_0 (M3_0 t2 t3 t4 t5 t6 t18 t19 t20 b0 b0_1 b0_2 b0_3 b0_4 b0_5 b1 b2 b3 b3_1 b3_2 b3_3 b3_4) =
  let z3 := Dk.mk b1 b2 b0_2 b0_3 b0_4 b0_5
  let z4 := IntKind.wrap .u64 (gIndex (intAt [.int .i64 t3, .int .i64 t4] (Int.toNat t20)) 5)
  let z5 := IntKind.wrap .i64 (t20 * t18)
  let z1 := cutX (wHdr z4) b3.length z5
  let z6 := rD b3 b3_1 b3_2 b3_3 b3_4
  let z7 := Dr.d (Dk.write z3 0 (cutX t19 b3.length 0))
  let z2 := M3_2 b0 b0_1 (Dk.q z7) (Dk.arm z7) (Dk.left z7) (Dk.down z7) (Dk.dur z7) (Dk.cur z7) (Dk.dur (Dr.d (Dk.write z6 0 (cutX t19 b3.length 0)))) (Dk.q (Dr.d (Dk.write z6 0 (cutX t19 b3.length 0)))) (Dk.down (Dr.d (Dk.write z6 0 (cutX t19 b3.length 0)))) (Dk.arm (Dr.d (Dk.write z6 0 (cutX t19 b3.length 0)))) (Dk.left (Dr.d (Dk.write z6 0 (cutX t19 b3.length 0))))
  (cond (decide (t20 < 2))
  (cond (decide (t18 ≥ 64))
  (cond (inB t20 2)
  (cond (pd (5 < (4611686018427387904 : Int)))
  (cond (decide (z4 < 4))
  (cond (okV z4)
  (cond (okDk b0 b0_1 z3 && (okR z6 && (okWx z3 (wHdr z4) && (okWx z6 (wHdr z4) && (pd ((0 : Int) ≤ z5) && pd (z5 ≤ (1000000 : Int)))))))
  (cond (pd (t5.length ≤ 9223372036854775807) && pd (4 ≤ (1000 : Int)))
  (goF E (callOf L23b) F3 0 m P3_1 (M3_1 t2 t3 t4 t5 t6 t18 t19 t20 z4 0 (mkRs t5 4) 0 b0 b0_1 (Dk.q (Dr.d (Dk.write z3 z5 z1))) (Dk.arm (Dr.d (Dk.write z3 z5 z1))) (Dk.left (Dr.d (Dk.write z3 z5 z1))) (Dk.down (Dr.d (Dk.write z3 z5 z1))) (Dk.dur (Dr.d (Dk.write z3 z5 z1))) (Dk.cur (Dr.d (Dk.write z3 z5 z1))) (Dk.dur (Dr.d (Dk.write z6 z5 z1))) (Dk.q (Dr.d (Dk.write z6 z5 z1))) (Dk.down (Dr.d (Dk.write z6 z5 z1))) (Dk.arm (Dr.d (Dk.write z6 z5 z1))) (Dk.left (Dr.d (Dk.write z6 z5 z1)))))
  none)
  none)
  none)
  (cond (pd (t5.length ≤ 9223372036854775807) && pd (4 ≤ (1000 : Int)))
  (goF E (callOf L23b) F3 0 m P3_1 (M3_1 t2 t3 t4 t5 t6 t18 t19 t20 z4 0 (mkRs t5 4) 0 b0 b0_1 b0_2 b0_3 b0_4 b0_5 b1 b2 b3 b3_1 b3_2 b3_3 b3_4))
  none))
  none)
  none)
  (cond ((Int.tmod t3 7) == 0)
  (cond (okDk b0 b0_1 z3 && (okR z6 && (okWx z3 t19 && (okWx z6 t19 && (pd ((0 : Int) ≤ 0) && pd (0 ≤ (1000000 : Int)))))))
  (goF E (callOf L23b) F3 0 m P3_2 z2)
  none)
  (goF E (callOf L23b) F3 0 m P3_2 (M3_2 b0 b0_1 b0_2 b0_3 b0_4 b0_5 b1 b2 b3 b3_1 b3_2 b3_3 b3_4))))
  (cond ((Int.tmod t3 7) == 0)
  (cond (okDk b0 b0_1 z3 && (okR z6 && (okWx z3 t19 && (okWx z6 t19 && (pd ((0 : Int) ≤ 0) && pd (0 ≤ (1000000 : Int)))))))
  (goF E (callOf L23b) F3 0 m P3_2 z2)
  none)
  (goF E (callOf L23b) F3 0 m P3_2 (M3_2 b0 b0_1 b0_2 b0_3 b0_4 b0_5 b1 b2 b3 b3_1 b3_2 b3_3 b3_4)))) := by kernel_rfl

theorem e3_1 (m : Nat) (t2 : List (List Cell)) (t3 t4 : Int) (t5 : List (List Cell)) (t6 t18 : Int) (t19 : List (List Cell)) (t20 t21 t22 : Int) (t23 : List (List Cell)) (t24 : Int) (b0 b0_1 : Nat) (b0_2 : List (List Cell)) (b0_3 : Bool) (b0_4 : Int) (b0_5 : Bool) (b1 b2 b3 b3_1 : List (List Cell)) (b3_2 b3_3 : Bool) (b3_4 : Int) : goF E (callOf L23b) F3 0 (m + 1) P3_1 (M3_1 t2 t3 t4 t5 t6 t18 t19 t20 t21 t22 t23 t24 b0 b0_1 b0_2 b0_3 b0_4 b0_5 b1 b2 b3 b3_1 b3_2 b3_3 b3_4) =
  let z1 := IntKind.wrap .i64 ((IntKind.wrap .i64 (t20 * t18)) + 32)
  let z2 := gIndex t6 (IntKind.wrap .i64 ((b3.length : Int) + 1))
  let z3 := cutX (wEnc t21 t22 (nl (Abs.rowAt t23 (Int.toNat t24)) 0)) b3.length (IntKind.wrap .i64 (z1 + t22))
  let z4 := Dr.d (Dk.write (Dk.mk b1 b2 b0_2 b0_3 b0_4 b0_5) z2 (cutX (t2.take (Int.toNat 3)) b3.length z2))
  let z5 := Dr.d (Dk.write (Dk.mk b1 b2 b0_2 b0_3 b0_4 b0_5) (IntKind.wrap .i64 (z1 + t22)) z3)
  let z6 := Dr.d (Dk.write (rD b3 b3_1 b3_2 b3_3 b3_4) z2 (cutX (t2.take (Int.toNat 3)) b3.length z2))
  let z7 := Dr.d (Dk.write (rD b3 b3_1 b3_2 b3_3 b3_4) (IntKind.wrap .i64 (z1 + t22)) z3)
  (cond (decide (t24 < (t23.length : Int)))
  (cond (inB t24 t23.length)
  (cond (okV t21 && okRx t22 (nl (Abs.rowAt t23 (Int.toNat t24)) 0))
  (cond (okDk b0 b0_1 (Dk.mk b1 b2 b0_2 b0_3 b0_4 b0_5) && (okR (rD b3 b3_1 b3_2 b3_3 b3_4) && (okWx (Dk.mk b1 b2 b0_2 b0_3 b0_4 b0_5) (wEnc t21 t22 (nl (Abs.rowAt t23 (Int.toNat t24)) 0)) && (okWx (rD b3 b3_1 b3_2 b3_3 b3_4) (wEnc t21 t22 (nl (Abs.rowAt t23 (Int.toNat t24)) 0)) && (pd ((0 : Int) ≤ (IntKind.wrap .i64 (z1 + t22))) && pd ((IntKind.wrap .i64 (z1 + t22)) ≤ (1000000 : Int)))))))
  (goF E (callOf L23b) F3 0 m P3_1 (M3_1 t2 t3 t4 t5 t6 t18 t19 t20 t21 (IntKind.wrap .i64 (t22 + ((wEnc t21 t22 (nl (Abs.rowAt t23 (Int.toNat t24)) 0)).length : Int))) t23 (IntKind.wrap .i64 (t24 + 1)) b0 b0_1 (Dk.q z5) (Dk.arm z5) (Dk.left z5) (Dk.down z5) (Dk.dur z5) (Dk.cur z5) (Dk.dur z7) (Dk.q z7) (Dk.down z7) (Dk.arm z7) (Dk.left z7)))
  none)
  none)
  none)
  (cond (pd ((IntKind.wrap .i64 ((b3.length : Int) + 1)) < (4611686018427387904 : Int)))
  (cond (pd ((0 : Int) ≤ 3) && pd (3 ≤ (1000 : Int)))
  (cond (okDk b0 b0_1 (Dk.mk b1 b2 b0_2 b0_3 b0_4 b0_5) && (okR (rD b3 b3_1 b3_2 b3_3 b3_4) && (okWx (Dk.mk b1 b2 b0_2 b0_3 b0_4 b0_5) (t2.take (Int.toNat 3)) && (okWx (rD b3 b3_1 b3_2 b3_3 b3_4) (t2.take (Int.toNat 3)) && (pd ((0 : Int) ≤ z2) && pd (z2 ≤ (1000000 : Int)))))))
  (goF E (callOf L23b) F3 0 m P3_0 (M3_0 t2 t3 t4 t5 t6 t18 t19 (IntKind.wrap .i64 (t20 + 1)) b0 b0_1 (Dk.q z4) (Dk.arm z4) (Dk.left z4) (Dk.down z4) (Dk.dur z4) (Dk.cur z4) (Dk.dur z6) (Dk.q z6) (Dk.down z6) (Dk.arm z6) (Dk.left z6)))
  none)
  none)
  none)) := by kernel_rfl

theorem e3_2 (m b0 b0_1 : Nat) (b0_2 : List (List Cell)) (b0_3 : Bool) (b0_4 : Int) (b0_5 : Bool) (b1 b2 b3 b3_1 : List (List Cell)) (b3_2 b3_3 : Bool) (b3_4 : Int) : goF E (callOf L23b) F3 0 (m + 1) P3_2 (M3_2 b0 b0_1 b0_2 b0_3 b0_4 b0_5 b1 b2 b3 b3_1 b3_2 b3_3 b3_4) =
  let z2 := Dr.d (Dk.sync (Dk.mk b1 b2 b0_2 b0_3 b0_4 b0_5))
  let z4 := Dr.d (Dk.sync (rD b3 b3_1 b3_2 b3_3 b3_4))
  let z1 := rD (Dk.dur z4) (Dk.q z4) (Dk.down z4) (Dk.arm z4) (Dk.left z4)
  let z3 := rD (Dk.dur (Lr.d (openM z1))) (Dk.q (Lr.d (openM z1))) (Dk.down (Lr.d (openM z1))) (Dk.arm (Lr.d (openM z1))) (Dk.left (Lr.d (openM z1)))
  (cond (okDk b0 b0_1 (Dk.mk b1 b2 b0_2 b0_3 b0_4 b0_5))
  (cond (okR (rD b3 b3_1 b3_2 b3_3 b3_4))
  (cond (okDk b0 b0_1 z2 && pd ((Dk.q z2).length ≤ 1000000))
  (cond (okM b0 b0_1 z2)
  (cond (okR z1 && pd ((Dk.q z4).length ≤ 1000000))
  (cond (okM3 z1)
  (cond ((Lr.e (openM z2)) != (Lr.e (openM z1)))
  (some ([.one (.bool false)], []))
  (cond (!(false == ((Lr.e (openM z2)) != 0)))
  (some ([.one (.bool false)], []))
  (cond (okDk b0 b0_1 (Lr.d (openM z2)))
  (cond (okR z3)
  (cond (!((Dk.all (Lr.d (openM z2))) == (toBytes (putQ (Dk.dur (Lr.d (openM z1))) (Dk.q (Lr.d (openM z1)))))))
  (some ([.one (.bool false)], []))
  (cond ((Lr.e (openM z2)) != 0)
  (some ([.one (.bool true)], []))
  (cond (okRs (Lg.recs (oL (tl22 z2))))
  (cond (pd ((cloneR (Lg.recs (oL (tl22 z2)))).length ≤ 9223372036854775807))
  (cond (sameR (cloneR (Lg.recs (oL (tl22 z2)))) (Lg.recs (oL (tl23 z1))))
  (cond ((Lg.gen (oL (tl22 z2))) == (Lg.gen (oL (tl23 z1))))
  (cond (okDk b0 b0_1 (Lr.d (openM z2)) && okLg (Lr.d (openM z2)) (oL (tl22 z2)))
  (cond (okR z3 && okLg z3 (oL (tl23 z1)))
  (cond ((Lg.free (oL (tl22 z2)) (Lr.d (openM z2))) == (Lg.free (oL (tl23 z1)) z3))
  (some ([.one (.bool true)], []))
  (some ([.one (.bool false)], [])))
  none)
  none)
  (some ([.one (.bool false)], [])))
  (some ([.one (.bool false)], [])))
  none)
  none)))
  none)
  none)))
  (cond (okF3 z1)
  (cond ((Lr.e (openM z2)) != (Lr.e (openM z1)))
  (some ([.one (.bool false)], []))
  (cond (!(false == ((Lr.e (openM z2)) != 0)))
  (some ([.one (.bool false)], []))
  (cond (okDk b0 b0_1 (Lr.d (openM z2)))
  (cond (okR z3)
  (cond (!((Dk.all (Lr.d (openM z2))) == (toBytes (putQ (Dk.dur (Lr.d (openM z1))) (Dk.q (Lr.d (openM z1)))))))
  (some ([.one (.bool false)], []))
  (cond ((Lr.e (openM z2)) != 0)
  (some ([.one (.bool true)], []))
  (cond (okRs (Lg.recs (oL (tl22 z2))))
  none
  none)))
  none)
  none)))
  none))
  none)
  (cond (okF b0 b0_1 z2)
  (cond (okR z1 && pd ((Dk.q z4).length ≤ 1000000))
  (cond (okM3 z1)
  (cond ((Lr.e (openM z2)) != (Lr.e (openM z1)))
  (some ([.one (.bool false)], []))
  (cond (!(true == ((Lr.e (openM z2)) != 0)))
  (some ([.one (.bool false)], []))
  (cond (okDk b0 b0_1 (Lr.d (openM z2)))
  (cond (okR z3)
  (cond (!((Dk.all (Lr.d (openM z2))) == (toBytes (putQ (Dk.dur (Lr.d (openM z1))) (Dk.q (Lr.d (openM z1)))))))
  (some ([.one (.bool false)], []))
  (cond ((Lr.e (openM z2)) != 0)
  (some ([.one (.bool true)], []))
  (cond (pd (([] : List (List Cell)).length ≤ 9223372036854775807))
  (cond (sameR ([] : List (List Cell)) (Lg.recs (oL (tl23 z1))))
  (cond ((0 : Int) == (Lg.gen (oL (tl23 z1))))
  (cond (okR z3 && okLg z3 (oL (tl23 z1)))
  (cond ((0 : Int) == (Lg.free (oL (tl23 z1)) z3))
  (some ([.one (.bool true)], []))
  (some ([.one (.bool false)], [])))
  none)
  (some ([.one (.bool false)], [])))
  (some ([.one (.bool false)], [])))
  none)))
  none)
  none)))
  (cond (okF3 z1)
  (cond ((Lr.e (openM z2)) != (Lr.e (openM z1)))
  (some ([.one (.bool false)], []))
  (cond (!(true == ((Lr.e (openM z2)) != 0)))
  (some ([.one (.bool false)], []))
  (cond (okDk b0 b0_1 (Lr.d (openM z2)))
  (cond (okR z3)
  (cond (!((Dk.all (Lr.d (openM z2))) == (toBytes (putQ (Dk.dur (Lr.d (openM z1))) (Dk.q (Lr.d (openM z1)))))))
  (some ([.one (.bool false)], []))
  (cond ((Lr.e (openM z2)) != 0)
  (some ([.one (.bool true)], []))
  none))
  none)
  none)))
  none))
  none)
  none))
  none)
  none)
  none) := by kernel_rfl

theorem e22z (m un cn : Nat) (qu : List (List Cell)) (am : Bool) (lf : Int) (dn : Bool) (du cu : List (List Cell)) : runF E (callOf L16) (m + 1) 22 [.one (.ptr 0 0)] [.var [.msl 5 1 un, .msl 5 2 cn, .sl true 85 qu, .bool am, .int .i64 lf, .bool dn], .arr 5 du, .arr 5 cu] =
  let z2 := Dk.rd (Dk.mk du cu qu am lf dn) (0 * Dk.half (Dk.mk du cu qu am lf dn) + 32) (Dk.half (Dk.mk du cu qu am lf dn) - 32)
  let z4 := Dk.rd (Dk.mk du cu qu am lf dn) (1 * Dk.half (Dk.mk du cu qu am lf dn) + 32) (Dk.half (Dk.mk du cu qu am lf dn) - 32)
  let z10 := Dk.rd (Dk.mk du cu qu am lf dn) (1 * Dk.half (Dk.mk du cu qu am lf dn)) 32
  let z1 := wScan (wGen z10) z4
  let z11 := Dk.rd (Dk.mk du cu qu am lf dn) (0 * Dk.half (Dk.mk du cu qu am lf dn)) 32
  let z5 := wScan (wGen z11) z2
  let z12 := Dk.store (Dk.mk du cu qu am lf dn) (0 * Dk.half (Dk.mk du cu qu am lf dn)) (wHdr 1)
  let z3 := Dr.d z12
  let z8 := Dk.store z3 (IntKind.wrap .i64 ((0 * Dk.half z3 + 32) + (wScan 1 z2).2)) (List.replicate (Int.toNat (IntKind.wrap .i64 ((z2.length : Int) - (wScan 1 z2).2))) [Cell.int .u8 0])
  let z13 := IntKind.wrap .i64 ((z4.length : Int) - z1.2)
  let z6 := Dk.store (Dk.mk du cu qu am lf dn) (IntKind.wrap .i64 ((1 * Dk.half (Dk.mk du cu qu am lf dn) + 32) + z1.2)) (List.replicate (Int.toNat z13) [Cell.int .u8 0])
  let z9 := Dk.store z3 (IntKind.wrap .i64 ((1 * Dk.half z3 + 32) + z1.2)) (List.replicate (Int.toNat z13) [Cell.int .u8 0])
  let z14 := sb1 (.var [.msl 5 1 un, .msl 5 2 cn, .sl true 85 qu, .bool am, .int .i64 lf, .bool dn])
  let z15 := IntKind.wrap .i64 ((z2.length : Int) - z5.2)
  let z7 := Dk.store (Dk.mk du cu qu am lf dn) (IntKind.wrap .i64 ((0 * Dk.half (Dk.mk du cu qu am lf dn) + 32) + z5.2)) (List.replicate (Int.toNat z15) [Cell.int .u8 0])
  let z16 := okDk un cn (Dk.mk du cu qu am lf dn)
  (cond z16
  (cond (decide ((secs du) < 4))
  (some ([.one (.nilp), .one (.int .i64 9)], [.var [.msl 5 1 un, .msl 5 2 cn, .sl true 85 qu, .bool am, .int .i64 lf, .bool dn], .arr 5 du, .arr 5 cu]))
  (cond dn
  (some ([.one (.nilp), .one (.int .i64 15)], [.var [.msl 5 1 un, .msl 5 2 cn, .sl true 85 qu, .bool am, .int .i64 lf, .bool dn], .arr 5 du, .arr 5 cu]))
  (cond (okDk un cn (Dk.mk du cu qu am lf dn) && okSeg 0)
  (cond z16
  (cond ((Dk.chk (Dk.mk du cu qu am lf dn) (0 * Dk.half (Dk.mk du cu qu am lf dn)) 32) != 0)
  (some ([.one (.nilp), .one (.int .i64 (Dk.chk (Dk.mk du cu qu am lf dn) (0 * Dk.half (Dk.mk du cu qu am lf dn)) 32))], [.var [.msl 5 1 un, .msl 5 2 cn, .sl true 85 qu, .bool am, .int .i64 lf, .bool dn], .arr 5 du, .arr 5 cu]))
  (cond (okB z11 && pd (z11.length = 32))
  (cond (okDk un cn (Dk.mk du cu qu am lf dn) && okSeg 0)
  (cond z16
  (cond z16
  (cond ((Dk.chk (Dk.mk du cu qu am lf dn) (0 * Dk.half (Dk.mk du cu qu am lf dn) + 32) (Dk.half (Dk.mk du cu qu am lf dn) - 32)) != 0)
  (some ([.one (.nilp), .one (.int .i64 (Dk.chk (Dk.mk du cu qu am lf dn) (0 * Dk.half (Dk.mk du cu qu am lf dn) + 32) (Dk.half (Dk.mk du cu qu am lf dn) - 32)))], [.var [.msl 5 1 un, .msl 5 2 cn, .sl true 85 qu, .bool am, .int .i64 lf, .bool dn], .arr 5 du, .arr 5 cu]))
  (cond (okDk un cn (Dk.mk du cu qu am lf dn) && okSeg 1)
  (cond z16
  (cond ((Dk.chk (Dk.mk du cu qu am lf dn) (1 * Dk.half (Dk.mk du cu qu am lf dn)) 32) != 0)
  (some ([.one (.nilp), .one (.int .i64 (Dk.chk (Dk.mk du cu qu am lf dn) (1 * Dk.half (Dk.mk du cu qu am lf dn)) 32))], [.var [.msl 5 1 un, .msl 5 2 cn, .sl true 85 qu, .bool am, .int .i64 lf, .bool dn], .arr 5 du, .arr 5 cu]))
  (cond (okB z10 && pd (z10.length = 32))
  (cond (okDk un cn (Dk.mk du cu qu am lf dn) && okSeg 1)
  (cond z16
  (cond z16
  (cond ((Dk.chk (Dk.mk du cu qu am lf dn) (1 * Dk.half (Dk.mk du cu qu am lf dn) + 32) (Dk.half (Dk.mk du cu qu am lf dn) - 32)) != 0)
  (some ([.one (.nilp), .one (.int .i64 (Dk.chk (Dk.mk du cu qu am lf dn) (1 * Dk.half (Dk.mk du cu qu am lf dn) + 32) (Dk.half (Dk.mk du cu qu am lf dn) - 32)))], [.var [.msl 5 1 un, .msl 5 2 cn, .sl true 85 qu, .bool am, .int .i64 lf, .bool dn], .arr 5 du, .arr 5 cu]))
  (cond ((wGen z11) == 0)
  (cond ((wGen z10) == 0)
  (cond (okBl z2)
  (cond (!(zeroB z2))
  (some ([.one (.nilp), .one (.int .i64 2)], [.var [.msl 5 1 un, .msl 5 2 cn, .sl true 85 qu, .bool am, .int .i64 lf, .bool dn], .arr 5 du, .arr 5 cu]))
  (cond (okBl z4)
  (cond (!(zeroB z4))
  (some ([.one (.nilp), .one (.int .i64 2)], [.var [.msl 5 1 un, .msl 5 2 cn, .sl true 85 qu, .bool am, .int .i64 lf, .bool dn], .arr 5 du, .arr 5 cu]))
  (cond (okDk un cn (Dk.mk du cu qu am lf dn) && okSeg 0)
  (cond (okV 1)
  (cond (okDk un cn (Dk.mk du cu qu am lf dn) && okWx (Dk.mk du cu qu am lf dn) (wHdr 1))
  (cond ((Dr.e z12) != 0)
  (some ([.one (.nilp), .one (.int .i64 (Dr.e z12))], [.var [.msl 5 1 un, .msl 5 2 cn, .sl true 85 (Dk.q z3), .bool (Dk.arm z3), .int .i64 (Dk.left z3), .bool (Dk.down z3)], .arr 5 (Dk.dur z3), .arr 5 (Dk.cur z3)]))
  (cond (decide ((wGen z10) > 1))
  (cond (okV (wGen z10) && okBl z4)
  (cond (inB z1.2 (z4.length + 1))
  (cond (okBl (dropN z4 (Int.toNat z1.2)))
  (cond (!(zeroB (dropN z4 (Int.toNat z1.2))))
  (cond (okDk un cn z3 && okSeg 1)
  (cond (true && ((sb1 (.var [.ptr 0 0, .int .i64 1, .int .u64 (wGen z10), .sl true 22 z1.1, .int .i64 z1.2, .bool ((Dr.e z12) != 0)])) && ((sb1 (.var [.msl 5 1 un, .msl 5 2 cn, .sl true 85 (Dk.q z3), .bool (Dk.arm z3), .int .i64 (Dk.left z3), .bool (Dk.down z3)])) && ((sb1 (.arr 5 (Dk.dur z3))) && ((sb1 (.arr 5 (Dk.cur z3))) && true)))))
  (cond (okMake z13 z13)
  (cond (okDk un cn z3 && okWx z3 (List.replicate (Int.toNat z13) [Cell.int .u8 0]))
  (cond ((Dr.e z9) != 0)
  (some ([.one (.nilp), .one (.int .i64 (Dr.e z9))], [.var [.msl 5 1 un, .msl 5 2 cn, .sl true 85 (Dk.q (Dr.d z9)), .bool (Dk.arm (Dr.d z9)), .int .i64 (Dk.left (Dr.d z9)), .bool (Dk.down (Dr.d z9))], .arr 5 (Dk.dur (Dr.d z9)), .arr 5 (Dk.cur (Dr.d z9))]))
  (some ([.one (.ptr 3 0), .one (.int .i64 0)], [.var [.msl 5 1 un, .msl 5 2 cn, .sl true 85 (Dk.q (Dr.d z9)), .bool (Dk.arm (Dr.d z9)), .int .i64 (Dk.left (Dr.d z9)), .bool (Dk.down (Dr.d z9))], .arr 5 (Dk.dur (Dr.d z9)), .arr 5 (Dk.cur (Dr.d z9)), .var [.ptr 0 0, .int .i64 1, .int .u64 (wGen z10), .sl true 22 z1.1, .int .i64 z1.2, .bool ((Dr.e z9) != 0)]])))
  none)
  none)
  none)
  none)
  (some ([.one (.ptr 3 0), .one (.int .i64 0)], [.var [.msl 5 1 un, .msl 5 2 cn, .sl true 85 (Dk.q z3), .bool (Dk.arm z3), .int .i64 (Dk.left z3), .bool (Dk.down z3)], .arr 5 (Dk.dur z3), .arr 5 (Dk.cur z3), .var [.ptr 0 0, .int .i64 1, .int .u64 (wGen z10), .sl true 22 z1.1, .int .i64 z1.2, .bool ((Dr.e z12) != 0)]])))
  none)
  none)
  none)
  (cond (okV 1 && okBl z2)
  (cond (inB (wScan 1 z2).2 (z2.length + 1))
  (cond (okBl (dropN z2 (Int.toNat (wScan 1 z2).2)))
  (cond (!(zeroB (dropN z2 (Int.toNat (wScan 1 z2).2))))
  (cond (okDk un cn z3 && okSeg 0)
  (cond (true && ((sb1 (.var [.ptr 0 0, .int .i64 0, .int .u64 1, .sl true 22 (wScan 1 z2).1, .int .i64 (wScan 1 z2).2, .bool ((Dr.e z12) != 0)])) && ((sb1 (.var [.msl 5 1 un, .msl 5 2 cn, .sl true 85 (Dk.q z3), .bool (Dk.arm z3), .int .i64 (Dk.left z3), .bool (Dk.down z3)])) && ((sb1 (.arr 5 (Dk.dur z3))) && ((sb1 (.arr 5 (Dk.cur z3))) && true)))))
  (cond (okMake (IntKind.wrap .i64 ((z2.length : Int) - (wScan 1 z2).2)) (IntKind.wrap .i64 ((z2.length : Int) - (wScan 1 z2).2)))
  (cond (okDk un cn z3 && okWx z3 (List.replicate (Int.toNat (IntKind.wrap .i64 ((z2.length : Int) - (wScan 1 z2).2))) [Cell.int .u8 0]))
  (cond ((Dr.e z8) != 0)
  (some ([.one (.nilp), .one (.int .i64 (Dr.e z8))], [.var [.msl 5 1 un, .msl 5 2 cn, .sl true 85 (Dk.q (Dr.d z8)), .bool (Dk.arm (Dr.d z8)), .int .i64 (Dk.left (Dr.d z8)), .bool (Dk.down (Dr.d z8))], .arr 5 (Dk.dur (Dr.d z8)), .arr 5 (Dk.cur (Dr.d z8))]))
  (some ([.one (.ptr 3 0), .one (.int .i64 0)], [.var [.msl 5 1 un, .msl 5 2 cn, .sl true 85 (Dk.q (Dr.d z8)), .bool (Dk.arm (Dr.d z8)), .int .i64 (Dk.left (Dr.d z8)), .bool (Dk.down (Dr.d z8))], .arr 5 (Dk.dur (Dr.d z8)), .arr 5 (Dk.cur (Dr.d z8)), .var [.ptr 0 0, .int .i64 0, .int .u64 1, .sl true 22 (wScan 1 z2).1, .int .i64 (wScan 1 z2).2, .bool ((Dr.e z8) != 0)]])))
  none)
  none)
  none)
  none)
  (some ([.one (.ptr 3 0), .one (.int .i64 0)], [.var [.msl 5 1 un, .msl 5 2 cn, .sl true 85 (Dk.q z3), .bool (Dk.arm z3), .int .i64 (Dk.left z3), .bool (Dk.down z3)], .arr 5 (Dk.dur z3), .arr 5 (Dk.cur z3), .var [.ptr 0 0, .int .i64 0, .int .u64 1, .sl true 22 (wScan 1 z2).1, .int .i64 (wScan 1 z2).2, .bool ((Dr.e z12) != 0)]])))
  none)
  none)
  none)))
  none)
  none)
  none))
  none))
  none)
  (cond (decide ((wGen z10) > (wGen z11)))
  (cond (okV (wGen z10) && okBl z4)
  (cond (inB z1.2 (z4.length + 1))
  (cond (okBl (dropN z4 (Int.toNat z1.2)))
  (cond (!(zeroB (dropN z4 (Int.toNat z1.2))))
  (cond (okDk un cn (Dk.mk du cu qu am lf dn) && okSeg 1)
  (cond (true && ((sb1 (.var [.ptr 0 0, .int .i64 1, .int .u64 (wGen z10), .sl true 22 z1.1, .int .i64 z1.2, .bool false])) && (z14 && ((sb1 (.arr 5 du)) && ((sb1 (.arr 5 cu)) && true)))))
  (cond (okMake z13 z13)
  (cond (okDk un cn (Dk.mk du cu qu am lf dn) && okWx (Dk.mk du cu qu am lf dn) (List.replicate (Int.toNat z13) [Cell.int .u8 0]))
  (cond ((Dr.e z6) != 0)
  (some ([.one (.nilp), .one (.int .i64 (Dr.e z6))], [.var [.msl 5 1 un, .msl 5 2 cn, .sl true 85 (Dk.q (Dr.d z6)), .bool (Dk.arm (Dr.d z6)), .int .i64 (Dk.left (Dr.d z6)), .bool (Dk.down (Dr.d z6))], .arr 5 (Dk.dur (Dr.d z6)), .arr 5 (Dk.cur (Dr.d z6))]))
  (some ([.one (.ptr 3 0), .one (.int .i64 0)], [.var [.msl 5 1 un, .msl 5 2 cn, .sl true 85 (Dk.q (Dr.d z6)), .bool (Dk.arm (Dr.d z6)), .int .i64 (Dk.left (Dr.d z6)), .bool (Dk.down (Dr.d z6))], .arr 5 (Dk.dur (Dr.d z6)), .arr 5 (Dk.cur (Dr.d z6)), .var [.ptr 0 0, .int .i64 1, .int .u64 (wGen z10), .sl true 22 z1.1, .int .i64 z1.2, .bool ((Dr.e z6) != 0)]])))
  none)
  none)
  none)
  none)
  (some ([.one (.ptr 3 0), .one (.int .i64 0)], [.var [.msl 5 1 un, .msl 5 2 cn, .sl true 85 qu, .bool am, .int .i64 lf, .bool dn], .arr 5 du, .arr 5 cu, .var [.ptr 0 0, .int .i64 1, .int .u64 (wGen z10), .sl true 22 z1.1, .int .i64 z1.2, .bool false]])))
  none)
  none)
  none)
  (cond (okV (wGen z11) && okBl z2)
  (cond (inB z5.2 (z2.length + 1))
  (cond (okBl (dropN z2 (Int.toNat z5.2)))
  (cond (!(zeroB (dropN z2 (Int.toNat z5.2))))
  (cond (okDk un cn (Dk.mk du cu qu am lf dn) && okSeg 0)
  (cond (true && ((sb1 (.var [.ptr 0 0, .int .i64 0, .int .u64 (wGen z11), .sl true 22 z5.1, .int .i64 z5.2, .bool false])) && (z14 && ((sb1 (.arr 5 du)) && ((sb1 (.arr 5 cu)) && true)))))
  (cond (okMake z15 z15)
  (cond (okDk un cn (Dk.mk du cu qu am lf dn) && okWx (Dk.mk du cu qu am lf dn) (List.replicate (Int.toNat z15) [Cell.int .u8 0]))
  (cond ((Dr.e z7) != 0)
  (some ([.one (.nilp), .one (.int .i64 (Dr.e z7))], [.var [.msl 5 1 un, .msl 5 2 cn, .sl true 85 (Dk.q (Dr.d z7)), .bool (Dk.arm (Dr.d z7)), .int .i64 (Dk.left (Dr.d z7)), .bool (Dk.down (Dr.d z7))], .arr 5 (Dk.dur (Dr.d z7)), .arr 5 (Dk.cur (Dr.d z7))]))
  (some ([.one (.ptr 3 0), .one (.int .i64 0)], [.var [.msl 5 1 un, .msl 5 2 cn, .sl true 85 (Dk.q (Dr.d z7)), .bool (Dk.arm (Dr.d z7)), .int .i64 (Dk.left (Dr.d z7)), .bool (Dk.down (Dr.d z7))], .arr 5 (Dk.dur (Dr.d z7)), .arr 5 (Dk.cur (Dr.d z7)), .var [.ptr 0 0, .int .i64 0, .int .u64 (wGen z11), .sl true 22 z5.1, .int .i64 z5.2, .bool ((Dr.e z7) != 0)]])))
  none)
  none)
  none)
  none)
  (some ([.one (.ptr 3 0), .one (.int .i64 0)], [.var [.msl 5 1 un, .msl 5 2 cn, .sl true 85 qu, .bool am, .int .i64 lf, .bool dn], .arr 5 du, .arr 5 cu, .var [.ptr 0 0, .int .i64 0, .int .u64 (wGen z11), .sl true 22 z5.1, .int .i64 z5.2, .bool false]])))
  none)
  none)
  none)))
  (cond (decide ((wGen z10) > (wGen z11)))
  (cond (okV (wGen z10) && okBl z4)
  (cond (inB z1.2 (z4.length + 1))
  (cond (okBl (dropN z4 (Int.toNat z1.2)))
  (cond (!(zeroB (dropN z4 (Int.toNat z1.2))))
  (cond (okDk un cn (Dk.mk du cu qu am lf dn) && okSeg 1)
  (cond (true && ((sb1 (.var [.ptr 0 0, .int .i64 1, .int .u64 (wGen z10), .sl true 22 z1.1, .int .i64 z1.2, .bool false])) && (z14 && ((sb1 (.arr 5 du)) && ((sb1 (.arr 5 cu)) && true)))))
  (cond (okMake z13 z13)
  (cond (okDk un cn (Dk.mk du cu qu am lf dn) && okWx (Dk.mk du cu qu am lf dn) (List.replicate (Int.toNat z13) [Cell.int .u8 0]))
  (cond ((Dr.e z6) != 0)
  (some ([.one (.nilp), .one (.int .i64 (Dr.e z6))], [.var [.msl 5 1 un, .msl 5 2 cn, .sl true 85 (Dk.q (Dr.d z6)), .bool (Dk.arm (Dr.d z6)), .int .i64 (Dk.left (Dr.d z6)), .bool (Dk.down (Dr.d z6))], .arr 5 (Dk.dur (Dr.d z6)), .arr 5 (Dk.cur (Dr.d z6))]))
  (some ([.one (.ptr 3 0), .one (.int .i64 0)], [.var [.msl 5 1 un, .msl 5 2 cn, .sl true 85 (Dk.q (Dr.d z6)), .bool (Dk.arm (Dr.d z6)), .int .i64 (Dk.left (Dr.d z6)), .bool (Dk.down (Dr.d z6))], .arr 5 (Dk.dur (Dr.d z6)), .arr 5 (Dk.cur (Dr.d z6)), .var [.ptr 0 0, .int .i64 1, .int .u64 (wGen z10), .sl true 22 z1.1, .int .i64 z1.2, .bool ((Dr.e z6) != 0)]])))
  none)
  none)
  none)
  none)
  (some ([.one (.ptr 3 0), .one (.int .i64 0)], [.var [.msl 5 1 un, .msl 5 2 cn, .sl true 85 qu, .bool am, .int .i64 lf, .bool dn], .arr 5 du, .arr 5 cu, .var [.ptr 0 0, .int .i64 1, .int .u64 (wGen z10), .sl true 22 z1.1, .int .i64 z1.2, .bool false]])))
  none)
  none)
  none)
  (cond (okV (wGen z11) && okBl z2)
  (cond (inB z5.2 (z2.length + 1))
  (cond (okBl (dropN z2 (Int.toNat z5.2)))
  (cond (!(zeroB (dropN z2 (Int.toNat z5.2))))
  (cond (okDk un cn (Dk.mk du cu qu am lf dn) && okSeg 0)
  (cond (true && ((sb1 (.var [.ptr 0 0, .int .i64 0, .int .u64 (wGen z11), .sl true 22 z5.1, .int .i64 z5.2, .bool false])) && (z14 && ((sb1 (.arr 5 du)) && ((sb1 (.arr 5 cu)) && true)))))
  (cond (okMake z15 z15)
  (cond (okDk un cn (Dk.mk du cu qu am lf dn) && okWx (Dk.mk du cu qu am lf dn) (List.replicate (Int.toNat z15) [Cell.int .u8 0]))
  (cond ((Dr.e z7) != 0)
  (some ([.one (.nilp), .one (.int .i64 (Dr.e z7))], [.var [.msl 5 1 un, .msl 5 2 cn, .sl true 85 (Dk.q (Dr.d z7)), .bool (Dk.arm (Dr.d z7)), .int .i64 (Dk.left (Dr.d z7)), .bool (Dk.down (Dr.d z7))], .arr 5 (Dk.dur (Dr.d z7)), .arr 5 (Dk.cur (Dr.d z7))]))
  (some ([.one (.ptr 3 0), .one (.int .i64 0)], [.var [.msl 5 1 un, .msl 5 2 cn, .sl true 85 (Dk.q (Dr.d z7)), .bool (Dk.arm (Dr.d z7)), .int .i64 (Dk.left (Dr.d z7)), .bool (Dk.down (Dr.d z7))], .arr 5 (Dk.dur (Dr.d z7)), .arr 5 (Dk.cur (Dr.d z7)), .var [.ptr 0 0, .int .i64 0, .int .u64 (wGen z11), .sl true 22 z5.1, .int .i64 z5.2, .bool ((Dr.e z7) != 0)]])))
  none)
  none)
  none)
  none)
  (some ([.one (.ptr 3 0), .one (.int .i64 0)], [.var [.msl 5 1 un, .msl 5 2 cn, .sl true 85 qu, .bool am, .int .i64 lf, .bool dn], .arr 5 du, .arr 5 cu, .var [.ptr 0 0, .int .i64 0, .int .u64 (wGen z11), .sl true 22 z5.1, .int .i64 z5.2, .bool false]])))
  none)
  none)
  none))))
  none)
  none)
  none)
  none))
  none)
  none))
  none)
  none)
  none)
  none))
  none)
  none)))
  none) := by kernel_rfl

theorem e23z (m : Nat) (du qu : List (List Cell)) (dn am : Bool) (lf : Int) : runF E (callOf L22b) (m + 1) 23 [.one (.ptr 0 0)] [.var [.sl false 5 du, .sl true 99 qu, .bool dn, .bool am, .int .i64 lf]] =
  let z7 := Dk.half (rD du qu dn am lf)
  let z8 := IntKind.wrap .i64 ((IntKind.wrap .i64 (1 * z7)) + 32)
  let z10 := IntKind.wrap .i64 ((IntKind.wrap .i64 (0 * z7)) + 32)
  let z14 := Dr.d (Dk.store (rD du qu dn am lf) 0 (wHdr 1))
  let z1 := rD (Dk.dur z14) (Dk.q z14) (Dk.down z14) (Dk.arm z14) (Dk.left z14)
  let z6 := List.replicate (Int.toNat (IntKind.wrap .i64 (((Dk.area z1 0).length : Int) - (wScan 1 (Dk.area z1 0)).2))) [Cell.int .u8 0]
  let z12 := IntKind.wrap .i64 ((IntKind.wrap .i64 (0 * (Dk.half z1))) + 32)
  let z13 := Dk.store z1 (IntKind.wrap .i64 (z12 + (wScan 1 (Dk.area z1 0)).2)) z6
  let z15 := Dk.area (rD du qu dn am lf) 1
  let z16 := Dk.area (rD du qu dn am lf) 0
  let z17 := Dk.gen (rD du qu dn am lf) 1
  let z4 := wScan z17 z15
  let z2 := List.replicate (Int.toNat (IntKind.wrap .i64 ((z15.length : Int) - z4.2))) [Cell.int .u8 0]
  let z9 := Dk.store (rD du qu dn am lf) (IntKind.wrap .i64 (z8 + z4.2)) z2
  let z18 := Dk.gen (rD du qu dn am lf) 0
  let z5 := wScan z18 z16
  let z3 := List.replicate (Int.toNat (IntKind.wrap .i64 ((z16.length : Int) - z5.2))) [Cell.int .u8 0]
  let z11 := Dk.store (rD du qu dn am lf) (IntKind.wrap .i64 (z10 + z5.2)) z3
  (cond (okR (rD du qu dn am lf))
  (cond (decide ((secs du) < 4))
  (some ([.one (.nilp), .one (.int .i64 9)], [.var [.sl false 5 du, .sl true 99 qu, .bool dn, .bool am, .int .i64 lf]]))
  (cond dn
  (some ([.one (.nilp), .one (.int .i64 15)], [.var [.sl false 5 du, .sl true 99 qu, .bool dn, .bool am, .int .i64 lf]]))
  (cond (okR (rD du qu dn am lf) && (okSeg 0 && pd (128 ≤ du.length)))
  (cond (okR (rD du qu dn am lf) && (okSeg 1 && pd (128 ≤ du.length)))
  (cond (z18 == 0)
  (cond (z17 == 0)
  (cond (okR (rD du qu dn am lf) && (okSeg 0 && pd (128 ≤ du.length)))
  (cond (okBl z16)
  (cond (!(zeroB z16))
  (some ([.one (.nilp), .one (.int .i64 2)], [.var [.sl false 5 du, .sl true 99 qu, .bool dn, .bool am, .int .i64 lf]]))
  (cond (okR (rD du qu dn am lf) && (okSeg 1 && pd (128 ≤ du.length)))
  (cond (okBl z15)
  (cond (!(zeroB z15))
  (some ([.one (.nilp), .one (.int .i64 2)], [.var [.sl false 5 du, .sl true 99 qu, .bool dn, .bool am, .int .i64 lf]]))
  (cond (okV 1)
  (cond (okR (rD du qu dn am lf) && okWx (rD du qu dn am lf) (wHdr 1))
  (cond ((Dr.e (Dk.store (rD du qu dn am lf) 0 (wHdr 1))) != 0)
  (some ([.one (.nilp), .one (.int .i64 (Dr.e (Dk.store (rD du qu dn am lf) 0 (wHdr 1))))], [.var [.sl false 5 (Dk.dur z14), .sl true 99 (Dk.q z14), .bool (Dk.down z14), .bool (Dk.arm z14), .int .i64 (Dk.left z14)]]))
  (cond (okR z1 && (okSeg 0 && pd (128 ≤ (Dk.dur z14).length)))
  (cond (okV 1 && okBl (Dk.area z1 0))
  (cond (inB (wScan 1 (Dk.area z1 0)).2 ((Dk.area z1 0).length + 1))
  (cond (okBl (dropN (Dk.area z1 0) (Int.toNat (wScan 1 (Dk.area z1 0)).2)))
  (cond (!(zeroB (dropN (Dk.area z1 0) (Int.toNat (wScan 1 (Dk.area z1 0)).2))))
  (cond (okR z1)
  (cond (okMake (IntKind.wrap .i64 (((Dk.area z1 0).length : Int) - (wScan 1 (Dk.area z1 0)).2)) (IntKind.wrap .i64 (((Dk.area z1 0).length : Int) - (wScan 1 (Dk.area z1 0)).2)))
  (cond (okR z1 && okWx z1 z6)
  (cond ((Dr.e z13) != 0)
  (some ([.one (.nilp), .one (.int .i64 (Dr.e z13))], [.var [.sl false 5 (Dk.dur (Dr.d z13)), .sl true 99 (Dk.q (Dr.d z13)), .bool (Dk.down (Dr.d z13)), .bool (Dk.arm (Dr.d z13)), .int .i64 (Dk.left (Dr.d z13))]]))
  (some ([.one (.ptr 1 0), .one (.int .i64 0)], [.var [.sl false 5 (Dk.dur (Dr.d z13)), .sl true 99 (Dk.q (Dr.d z13)), .bool (Dk.down (Dr.d z13)), .bool (Dk.arm (Dr.d z13)), .int .i64 (Dk.left (Dr.d z13))], .var [.ptr 0 0, .int .i64 0, .int .u64 1, .sl true 22 (wScan 1 (Dk.area z1 0)).1, .int .i64 (wScan 1 (Dk.area z1 0)).2, .bool false]])))
  none)
  none)
  none)
  (some ([.one (.ptr 1 0), .one (.int .i64 0)], [.var [.sl false 5 (Dk.dur z14), .sl true 99 (Dk.q z14), .bool (Dk.down z14), .bool (Dk.arm z14), .int .i64 (Dk.left z14)], .var [.ptr 0 0, .int .i64 0, .int .u64 1, .sl true 22 (wScan 1 (Dk.area z1 0)).1, .int .i64 (wScan 1 (Dk.area z1 0)).2, .bool false]])))
  none)
  none)
  none)
  none))
  none)
  none))
  none)
  none))
  none)
  none)
  (cond (decide (z17 > z18))
  (cond (okR (rD du qu dn am lf) && (okSeg 1 && pd (128 ≤ du.length)))
  (cond (okV z17 && okBl z15)
  (cond (inB z4.2 (z15.length + 1))
  (cond (okBl (dropN z15 (Int.toNat z4.2)))
  (cond (!(zeroB (dropN z15 (Int.toNat z4.2))))
  (cond (okR (rD du qu dn am lf))
  (cond (okMake (IntKind.wrap .i64 ((z15.length : Int) - z4.2)) (IntKind.wrap .i64 ((z15.length : Int) - z4.2)))
  (cond (okR (rD du qu dn am lf) && okWx (rD du qu dn am lf) z2)
  (cond ((Dr.e z9) != 0)
  (some ([.one (.nilp), .one (.int .i64 (Dr.e z9))], [.var [.sl false 5 (Dk.dur (Dr.d z9)), .sl true 99 (Dk.q (Dr.d z9)), .bool (Dk.down (Dr.d z9)), .bool (Dk.arm (Dr.d z9)), .int .i64 (Dk.left (Dr.d z9))]]))
  (some ([.one (.ptr 1 0), .one (.int .i64 0)], [.var [.sl false 5 (Dk.dur (Dr.d z9)), .sl true 99 (Dk.q (Dr.d z9)), .bool (Dk.down (Dr.d z9)), .bool (Dk.arm (Dr.d z9)), .int .i64 (Dk.left (Dr.d z9))], .var [.ptr 0 0, .int .i64 1, .int .u64 z17, .sl true 22 z4.1, .int .i64 z4.2, .bool false]])))
  none)
  none)
  none)
  (some ([.one (.ptr 1 0), .one (.int .i64 0)], [.var [.sl false 5 du, .sl true 99 qu, .bool dn, .bool am, .int .i64 lf], .var [.ptr 0 0, .int .i64 1, .int .u64 z17, .sl true 22 z4.1, .int .i64 z4.2, .bool false]])))
  none)
  none)
  none)
  none)
  (cond (okR (rD du qu dn am lf) && (okSeg 0 && pd (128 ≤ du.length)))
  (cond (okV z18 && okBl z16)
  (cond (inB z5.2 (z16.length + 1))
  (cond (okBl (dropN z16 (Int.toNat z5.2)))
  (cond (!(zeroB (dropN z16 (Int.toNat z5.2))))
  (cond (okR (rD du qu dn am lf))
  (cond (okMake (IntKind.wrap .i64 ((z16.length : Int) - z5.2)) (IntKind.wrap .i64 ((z16.length : Int) - z5.2)))
  (cond (okR (rD du qu dn am lf) && okWx (rD du qu dn am lf) z3)
  (cond ((Dr.e z11) != 0)
  (some ([.one (.nilp), .one (.int .i64 (Dr.e z11))], [.var [.sl false 5 (Dk.dur (Dr.d z11)), .sl true 99 (Dk.q (Dr.d z11)), .bool (Dk.down (Dr.d z11)), .bool (Dk.arm (Dr.d z11)), .int .i64 (Dk.left (Dr.d z11))]]))
  (some ([.one (.ptr 1 0), .one (.int .i64 0)], [.var [.sl false 5 (Dk.dur (Dr.d z11)), .sl true 99 (Dk.q (Dr.d z11)), .bool (Dk.down (Dr.d z11)), .bool (Dk.arm (Dr.d z11)), .int .i64 (Dk.left (Dr.d z11))], .var [.ptr 0 0, .int .i64 0, .int .u64 z18, .sl true 22 z5.1, .int .i64 z5.2, .bool false]])))
  none)
  none)
  none)
  (some ([.one (.ptr 1 0), .one (.int .i64 0)], [.var [.sl false 5 du, .sl true 99 qu, .bool dn, .bool am, .int .i64 lf], .var [.ptr 0 0, .int .i64 0, .int .u64 z18, .sl true 22 z5.1, .int .i64 z5.2, .bool false]])))
  none)
  none)
  none)
  none)))
  (cond (decide (z17 > z18))
  (cond (okR (rD du qu dn am lf) && (okSeg 1 && pd (128 ≤ du.length)))
  (cond (okV z17 && okBl z15)
  (cond (inB z4.2 (z15.length + 1))
  (cond (okBl (dropN z15 (Int.toNat z4.2)))
  (cond (!(zeroB (dropN z15 (Int.toNat z4.2))))
  (cond (okR (rD du qu dn am lf))
  (cond (okMake (IntKind.wrap .i64 ((z15.length : Int) - z4.2)) (IntKind.wrap .i64 ((z15.length : Int) - z4.2)))
  (cond (okR (rD du qu dn am lf) && okWx (rD du qu dn am lf) z2)
  (cond ((Dr.e z9) != 0)
  (some ([.one (.nilp), .one (.int .i64 (Dr.e z9))], [.var [.sl false 5 (Dk.dur (Dr.d z9)), .sl true 99 (Dk.q (Dr.d z9)), .bool (Dk.down (Dr.d z9)), .bool (Dk.arm (Dr.d z9)), .int .i64 (Dk.left (Dr.d z9))]]))
  (some ([.one (.ptr 1 0), .one (.int .i64 0)], [.var [.sl false 5 (Dk.dur (Dr.d z9)), .sl true 99 (Dk.q (Dr.d z9)), .bool (Dk.down (Dr.d z9)), .bool (Dk.arm (Dr.d z9)), .int .i64 (Dk.left (Dr.d z9))], .var [.ptr 0 0, .int .i64 1, .int .u64 z17, .sl true 22 z4.1, .int .i64 z4.2, .bool false]])))
  none)
  none)
  none)
  (some ([.one (.ptr 1 0), .one (.int .i64 0)], [.var [.sl false 5 du, .sl true 99 qu, .bool dn, .bool am, .int .i64 lf], .var [.ptr 0 0, .int .i64 1, .int .u64 z17, .sl true 22 z4.1, .int .i64 z4.2, .bool false]])))
  none)
  none)
  none)
  none)
  (cond (okR (rD du qu dn am lf) && (okSeg 0 && pd (128 ≤ du.length)))
  (cond (okV z18 && okBl z16)
  (cond (inB z5.2 (z16.length + 1))
  (cond (okBl (dropN z16 (Int.toNat z5.2)))
  (cond (!(zeroB (dropN z16 (Int.toNat z5.2))))
  (cond (okR (rD du qu dn am lf))
  (cond (okMake (IntKind.wrap .i64 ((z16.length : Int) - z5.2)) (IntKind.wrap .i64 ((z16.length : Int) - z5.2)))
  (cond (okR (rD du qu dn am lf) && okWx (rD du qu dn am lf) z3)
  (cond ((Dr.e z11) != 0)
  (some ([.one (.nilp), .one (.int .i64 (Dr.e z11))], [.var [.sl false 5 (Dk.dur (Dr.d z11)), .sl true 99 (Dk.q (Dr.d z11)), .bool (Dk.down (Dr.d z11)), .bool (Dk.arm (Dr.d z11)), .int .i64 (Dk.left (Dr.d z11))]]))
  (some ([.one (.ptr 1 0), .one (.int .i64 0)], [.var [.sl false 5 (Dk.dur (Dr.d z11)), .sl true 99 (Dk.q (Dr.d z11)), .bool (Dk.down (Dr.d z11)), .bool (Dk.arm (Dr.d z11)), .int .i64 (Dk.left (Dr.d z11))], .var [.ptr 0 0, .int .i64 0, .int .u64 z18, .sl true 22 z5.1, .int .i64 z5.2, .bool false]])))
  none)
  none)
  none)
  (some ([.one (.ptr 1 0), .one (.int .i64 0)], [.var [.sl false 5 du, .sl true 99 qu, .bool dn, .bool am, .int .i64 lf], .var [.ptr 0 0, .int .i64 0, .int .u64 z18, .sl true 22 z5.1, .int .i64 z5.2, .bool false]])))
  none)
  none)
  none)
  none)))
  none)
  none)))
  none) := by kernel_rfl

end Go.Proofs.Ytpafnokcmhlbgaa

namespace Go.Proofs.Ytpafnokcmhlbgaa

open Go.Abs

theorem oF {un cn : Nat} {d : Dk} {a g : Int} {b : List (List Cell)} {n : Int} {s : List (List Cell) × Int} {st : Dr} {Z' : Bool} {X2 X3 : Option (List AV × List Block)} (h : okDk un cn d = true) (hq : d.q.length ≤ 2000000) (ha : okSeg a = true) (hg : okV g = true) (hb : okB b = true) (hbl : b.length ≤ 65536)
    (hs : s = wScan g b) (hn : n = b.length - s.2) (hst : st = d.store (a * d.half + 32 + s.2) (zeros n)) (h0 : (openT d a g b).e ≠ 0) (hZ : Z' = true) :
    (cond (okV g && okBl b) (cond (inB s.2 (b.length + 1)) (cond (okBl (dropN b (Int.toNat s.2))) (cond (!(zeroB (dropN b (Int.toNat s.2)))) (cond (okDk un cn d && okSeg a) (cond Z' (cond (okMake n n) (cond (okDk un cn d && okWx d (List.replicate (Int.toNat n) [Cell.int .u8 0]))
      (cond (st.e != 0) (some ([.one (.nilp), .one (.int .i64 st.e)], [dV un cn st.d, .arr 5 st.d.dur, .arr 5 st.d.cur])) X2) none) none) none) none) X3) none) none) none) =
      some ([.one (.nilp), .one (.int .i64 (openT d a g b).e)], [dV un cn (openT d a g b).d, .arr 5 (openT d a g b).d.dur, .arr 5 (openT d a g b).d.cur]) := by
  subst hs hn hst hZ
  have hr := wScan_range (g := g) hb
  have hbd := okB_drop hb (wScan g b).2.toNat
  rw [dropN_eq]
  refine ct (and_mk hg (and_mk hb (pd_t (by omega)))) (ct (inB_le (by omega) (by omega)) (ct (and_mk hbd (pd_t (by rw [List.length_drop]; omega))) ?_))
  unfold openT at h0 ⊢
  cases hz : zeroB (b.drop (wScan g b).2.toNat) with
  | true =>
    rw [hz, if_pos rfl] at h0
    exact absurd rfl h0
  | false =>
    rw [hz, if_neg (by simp)] at h0
    rw [if_neg (by simp)]
    refine ct rfl (ct (and_mk h ha) (ct rfl (ct (okMake_mk (by omega) (by omega)) (ct (and_mk h (okWx_mk (okB_rep _) (by rw [List.length_replicate]; omega))) ?_))))
    dsimp only at h0 ⊢
    exact ct (by simpa using h0) rfl

theorem k22F (un cn : Nat) (d : Dk) (h : okDk un cn d = true) (hq : d.q.length ≤ 1000000) (h0 : (openM d).e ≠ 0) : runF E (callOf L50) 1 22 [.one (.ptr 0 0)] (dB un cn d) =
    some ([.one (.nilp), .one (.int .i64 (openM d).e)], dB un cn (openM d).d) := by
  obtain ⟨hu, hc, hd⟩ := okDk_of h
  have hh := half_of hd
  have h1 := hd.le
  have h2 := hd.cd
  have hbc := hd.bc
  rw [e22]
  simp (config := { zeta := false }) only [dk_eta]
  extract_lets z2 z4 z10 z1 z11 z5 z12 z3 z8 z13 z6 z9 z14 z15 z7 z16
  by_cases h3 : d.dur.length < 128
  · have e : openM d = ⟨d, Lg.none, 9⟩ := by unfold openM; rw [if_pos h3]
    rw [e]
    exact ct h (ct (decide_eq_true (by unfold secs; omega)) rfl)
  by_cases h4 : d.down = true
  · have e : openM d = ⟨d, Lg.none, 15⟩ := by unfold openM; rw [if_neg h3, if_pos h4]
    rw [e]
    exact ct h (cf (decide_eq_false (by unfold secs; omega)) (ct h4 rfl))
  · have h4 : d.down = false := by simpa using h4
    have h64 := hh.2.2.2 (by omega)
    have c0 : d.chk (0 * d.half) 32 = 0 := chk_mk h4 (by omega) (by omega) (by omega)
    have c1 : d.chk (1 * d.half) 32 = 0 := chk_mk h4 (by omega) (by omega) (by omega)
    have c2 : d.chk (0 * d.half + 32) (d.half - 32) = 0 := chk_mk h4 (by omega) (by omega) (by omega)
    have c3 : d.chk (1 * d.half + 32) (d.half - 32) = 0 := chk_mk h4 (by omega) (by omega) (by omega)
    have q0 : z11 = subL d.cur (0 * d.half).toNat (0 * d.half + 32).toNat := rd_of c0
    have q1 : z10 = subL d.cur (1 * d.half).toNat (1 * d.half + 32).toNat := rd_of c1
    have q2 : z2 = d.area 0 := by
      have := rd_of c2
      rw [show 0 * d.half + 32 + (d.half - 32) = (0 + 1) * d.half by omega] at this
      exact this
    have q3 : z4 = d.area 1 := by
      have := rd_of c3
      rw [show 1 * d.half + 32 + (d.half - 32) = (1 + 1) * d.half by omega] at this
      exact this
    have g0 : wGen z11 = d.gen 0 := by rw [q0]; rfl
    have g1 : wGen z10 = d.gen 1 := by rw [q1]; rfl
    have b0 : okB z11 = true := by rw [q0]; exact okB_sub hbc _ _
    have b1 : okB z10 = true := by rw [q1]; exact okB_sub hbc _ _
    have b2 : okB z2 = true := by rw [q2, Dk.area]; exact okB_sub hbc _ _
    have b3 : okB z4 = true := by rw [q3, Dk.area]; exact okB_sub hbc _ _
    have n0 : z11.length = 32 := by rw [q0, subL_len (by omega)]; omega
    have n1 : z10.length = 32 := by rw [q1, subL_len (by omega)]; omega
    have n2 : (z2.length : Int) = d.half - 32 := by rw [q2, Dk.area, subL_len (by omega)]; omega
    have n3 : (z4.length : Int) = d.half - 32 := by rw [q3, Dk.area, subL_len (by omega)]; omega
    have r0 := wGen_range b0 n0
    have r1 := wGen_range b1 n1
    have s1 := wScan_range (g := wGen z10) b3
    have s5 := wScan_range (g := wGen z11) b2
    have s8 := wScan_range (g := 1) b2
    have e13 : z13 = z4.length - z1.2 := wrap64 (by show _ ≤ (z4.length : Int) - (wScan (wGen z10) z4).2; omega) (by show (z4.length : Int) - (wScan (wGen z10) z4).2 ≤ _; omega)
    have e15 : z15 = z2.length - z5.2 := wrap64 (by show _ ≤ (z2.length : Int) - (wScan (wGen z11) z2).2; omega) (by show (z2.length : Int) - (wScan (wGen z11) z2).2 ≤ _; omega)
    have e6 : z6 = d.store (1 * d.half + 32 + z1.2) (zeros z13) := by
      have w : IntKind.wrap .i64 (1 * d.half + 32 + z1.2) = 1 * d.half + 32 + z1.2 := wrap64 (by show _ ≤ 1 * d.half + 32 + (wScan (wGen z10) z4).2; omega) (by show 1 * d.half + 32 + (wScan (wGen z10) z4).2 ≤ _; omega)
      rw [← w]; rfl
    have e7 : z7 = d.store (0 * d.half + 32 + z5.2) (zeros z15) := by
      have w : IntKind.wrap .i64 (0 * d.half + 32 + z5.2) = 0 * d.half + 32 + z5.2 := wrap64 (by show _ ≤ 0 * d.half + 32 + (wScan (wGen z11) z2).2; omega) (by show 0 * d.half + 32 + (wScan (wGen z11) z2).2 ≤ _; omega)
      rw [← w]; rfl
    have seg0 : okSeg 0 = true := seg_mk (.inl rfl)
    have seg1 : okSeg 1 = true := seg_mk (.inr rfl)
    have bl : ∀ {b : List (List Cell)}, okB b = true → (b.length : Int) = d.half - 32 → okBl b = true := fun hb hn => and_mk hb (pd_t (by omega))
    refine ct h (cf (decide_eq_false (by unfold secs; omega)) (cf h4 (ct (and_mk h seg0) (ct h (cf (by rw [c0]; rfl) (ct (and_mk b0 (pd_t n0)) (ct (and_mk h seg0) (ct h (ct h (cf (by rw [c2]; rfl) ?_))))))))))
    refine ct (and_mk h seg1) (ct h (cf (by rw [c1]; rfl) (ct (and_mk b1 (pd_t n1)) (ct (and_mk h seg1) (ct h (ct h (cf (by rw [c3]; rfl) ?_)))))))
    have fin1 : d.gen 0 < d.gen 1 → openM d = openT d 1 (d.gen 1) (d.area 1) := fun hg => by
      unfold openM
      rw [if_neg (h3), if_neg (by simp [h4]), if_neg (by omega), if_pos hg]
    have fin0 : ¬ d.gen 0 < d.gen 1 → ¬ (d.gen 0 = 0 ∧ d.gen 1 = 0) → openM d = openT d 0 (d.gen 0) (d.area 0) := fun hg hn => by
      unfold openM
      rw [if_neg (h3), if_neg (by simp [h4]), if_neg hn, if_neg hg]
    have sbz : ∀ (a b c e : Block), (true && (sb1 a && (sb1 b && (sb1 c && (sb1 e && true))))) = true := sbs
    by_cases y0 : d.gen 0 = 0
    · refine ct (by rw [g0, y0]; rfl) ?_
      by_cases y1 : d.gen 1 = 0
      · refine ct (by rw [g1, y1]; rfl) ?_
        have eo : openM d = if zeroB (d.area 0) = true ∧ zeroB (d.area 1) = true then
            if (d.store 0 (wHdr 1)).e = 0 then openT (d.store 0 (wHdr 1)).d 0 1 (d.area 0) else ⟨(d.store 0 (wHdr 1)).d, Lg.none, (d.store 0 (wHdr 1)).e⟩
            else ⟨d, Lg.none, 2⟩ := by
          unfold openM
          rw [if_neg h3, if_neg (by simp [h4]), if_pos ⟨y0, y1⟩]
        have z12e : z12 = d.store 0 (wHdr 1) := by
          show d.store (0 * d.half) (wHdr 1) = _
          rw [Int.zero_mul]
        have hw : okB (wHdr 1) = true := wHdr_okB 1
        have hwl : (wHdr 1).length = 32 := wHdr_len 1
        have hk : Kept d z3 32 := by
          have := store_kept (o := 0) hd hw (by rw [hwl]; omega)
          rw [hwl] at this
          show Kept d z12.d 32
          rw [z12e]; exact this
        have hkh := hk.half
        have hkq := hk.q
        have z3e : z3 = (d.store 0 (wHdr 1)).d := by show z12.d = _; rw [z12e]
        refine ct (bl b2 n2) ?_
        by_cases hz0 : zeroB (d.area 0) = true
        rotate_left
        · rw [eo, if_neg (fun hc => hz0 hc.1)]
          exact ct (by rw [q2]; simpa using hz0) rfl
        refine cf (by rw [q2, hz0]; rfl) (ct (bl b3 n3) ?_)
        by_cases hz1 : zeroB (d.area 1) = true
        rotate_left
        · rw [eo, if_neg (fun hc => hz1 hc.2)]
          exact ct (by rw [q3]; simpa using hz1) rfl
        rw [if_pos ⟨hz0, hz1⟩] at eo
        refine cf (by rw [q3, hz1]; rfl) (ct (and_mk h seg0) (ct (okV_mk (by omega) (by omega)) (ct (and_mk h (okWx_mk hw (by rw [hwl]; omega))) ?_)))
        by_cases he : (d.store 0 (wHdr 1)).e = 0
        rotate_left
        · rw [if_neg he] at eo
          rw [eo, ← z12e]
          exact ct (by rw [z12e]; simpa using he) rfl
        rw [if_pos he] at eo
        refine cf (by rw [z12e, he]; rfl) (cf (decide_eq_false (by omega)) ?_)
        rw [eo] at h0 ⊢
        rw [← z3e, ← q2] at h0 ⊢
        have hn8 : IntKind.wrap .i64 ((z2.length : Int) - (wScan 1 z2).2) = z2.length - (wScan 1 z2).2 := wrap64 (by omega) (by omega)
        have e8 : z8 = z3.store (0 * z3.half + 32 + (wScan 1 z2).2) (zeros (IntKind.wrap .i64 ((z2.length : Int) - (wScan 1 z2).2))) := by
          have w : IntKind.wrap .i64 (0 * z3.half + 32 + (wScan 1 z2).2) = 0 * z3.half + 32 + (wScan 1 z2).2 := wrap64 (by omega) (by omega)
          rw [← w]; rfl
        exact oF (kept_ok h hk) (by omega) seg0 (okV_mk (by omega) (by omega)) b2 (by omega) rfl hn8 e8 h0 (sbz _ _ _ _)
      · refine cf (beq_eq_false_iff_ne.mpr (by rw [g1]; exact y1)) ?_
        have hlt : d.gen 0 < d.gen 1 := by omega
        rw [fin1 hlt] at h0 ⊢
        rw [← g1, ← q3] at h0 ⊢
        refine ct (decide_eq_true (by omega)) ?_
        exact oF h (by omega) seg1 (okV_mk r1.1 r1.2) b3 (by omega) rfl e13 e6 h0 (sbz _ _ _ _)
    · refine cf (beq_eq_false_iff_ne.mpr (by rw [g0]; exact y0)) ?_
      by_cases hlt : d.gen 0 < d.gen 1
      · rw [fin1 hlt] at h0 ⊢
        refine ct (decide_eq_true (by omega)) ?_
        rw [← g1, ← q3] at h0 ⊢
        exact oF h (by omega) seg1 (okV_mk r1.1 r1.2) b3 (by omega) rfl e13 e6 h0 (sbz _ _ _ _)
      · rw [fin0 hlt (fun hc => y0 hc.1)] at h0 ⊢
        refine cf (decide_eq_false (by omega)) ?_
        rw [← g0, ← q2] at h0 ⊢
        exact oF h (by omega) seg0 (okV_mk r0.1 r0.2) b2 (by omega) rfl e15 e7 h0 (sbz _ _ _ _)

theorem same22 (un cn : Nat) (qu : List (List Cell)) (am : Bool) (lf : Int) (dn : Bool) (du cu : List (List Cell)) : runF E (callOf L16) 1 22 [.one (.ptr 0 0)] [.var [.msl 5 1 un, .msl 5 2 cn, .sl true 85 qu, .bool am, .int .i64 lf, .bool dn], .arr 5 du, .arr 5 cu] =
    runF E (callOf L50) 1 22 [.one (.ptr 0 0)] [.var [.msl 5 1 un, .msl 5 2 cn, .sl true 85 qu, .bool am, .int .i64 lf, .bool dn], .arr 5 du, .arr 5 cu] := (e22z 0 un cn qu am lf dn du cu).trans (e22 0 un cn qu am lf dn du cu).symm

theorem k22z (un cn : Nat) (d : Dk) (h : okDk un cn d = true) (hq : d.q.length ≤ 1000000) : runF E (callOf L16) 1 22 [.one (.ptr 0 0)] (dB un cn d) = some (R22 un cn d) := by
  refine (same22 un cn d.q d.arm d.left d.down d.dur d.cur).trans ?_
  by_cases h0 : (openM d).e = 0
  · have e : okO d = true := pd_t h0
    rw [k22 un cn d h hq h0]
    unfold R22 tl22
    rw [e, h0]
    rfl
  · have e : okO d = false := by
      cases hc : okO d with
      | false => rfl
      | true => exact absurd (pd_of hc) h0
    rw [k22F un cn d h hq h0]
    unfold R22 tl22
    rw [e]
    rfl

theorem okM_t {un cn : Nat} {d : Dk} (h : (openM d).e = 0) : okM un cn d = true := by
  have e : okO d = true := pd_t h
  unfold okM R22 tl22
  rw [e]
  rfl

theorem okM_f {un cn : Nat} {d : Dk} (h : (openM d).e ≠ 0) : okM un cn d = false := by
  have e : okO d = false := by
    cases hc : okO d with
    | false => rfl
    | true => exact absurd (pd_of hc) h
  unfold okM R22 tl22
  rw [e]
  rfl

theorem okF_t {un cn : Nat} {d : Dk} (h : (openM d).e ≠ 0) : okF un cn d = true := by
  have e : okO d = false := by
    cases hc : okO d with
    | false => rfl
    | true => exact absurd (pd_of hc) h
  unfold okF R22 tl22
  rw [e]
  rfl

theorem oL_t {d : Dk} (h : (openM d).e = 0) : oL (tl22 d) = (openM d).l := by
  have e : okO d = true := pd_t h
  unfold tl22
  rw [e]
  rfl

end Go.Proofs.Ytpafnokcmhlbgaa

namespace Go.Proofs.Ytpafnokcmhlbgaa

open Go.Abs

theorem store_view {d : Dk} (h : d.cur = putQ d.dur d.q) (o : Int) (x : List (List Cell)) : (d.store o x).d.cur = putQ (d.store o x).d.dur (d.store o x).d.q := by
  have hw := write_view h o x
  unfold Dk.store
  split
  · unfold Dk.sync
    split
    · exact hw
    · exact hw
  · exact hw

noncomputable def Rr (r : Lr) : List AV × List Block :=
  if r.e = 0 then ([.one (.ptr 1 0), .one (.int .i64 0)], [rV r.d, lV 0 r.l]) else ([.one .nilp, .one (.int .i64 r.e)], [rV r.d])

theorem R23_eq (d : Dk) : R23 d = Rr (openM d) := by
  unfold Rr R23 tl23 tl22
  by_cases h : (openM d).e = 0
  · have e : okO d = true := pd_t h
    rw [if_pos h, e, h]
    rfl
  · have e : okO d = false := by
      cases hc : okO d with
      | false => rfl
      | true => exact absurd (pd_of hc) h
    rw [if_neg h, e]
    rfl

theorem wrF_cur : ∀ (k : Nat) (d : Dk) (o : Int) (x : List (List Cell)), 0 ≤ o → o + x.length ≤ d.cur.length → x.length ≤ k → (wrF k d o x).e = 0 → (wrF k d o x).d.cur = overL d.cur o.toNat x
  | 0, d, o, x, h0, ho, hx, _ => by
    have hx0 : x = [] := List.eq_nil_of_length_eq_zero (by omega)
    subst hx0
    rw [overL_nil]; rfl
  | k + 1, d, o, x, h0, ho, hx, he => by
    by_cases hx0 : x.length = 0
    · have hx0 : x = [] := List.eq_nil_of_length_eq_zero (by omega)
      subst hx0
      rw [overL_nil, wrF_zero]
    obtain ⟨p1, p2, p3, p4⟩ := pcN_of (o := o) (n := x.length) h0 (by omega)
    rw [wrF, if_neg hx0] at he ⊢
    split at he
    · cases he
    rename_i ha
    rw [if_neg ha]
    generalize pcN o x.length = p at p1 p2 p3 p4 he ⊢
    have htl : (x.take p).length = p := by rw [List.length_take]; omega
    rw [wrF_cur k _ _ _ (by omega) (by show _ ≤ ((overL d.cur o.toNat (x.take p)).length : Int); rw [overL_len (by omega), List.length_drop]; omega) (by rw [List.length_drop]; omega) he]
    have e : (o + (p : Int)).toNat = o.toNat + (x.take p).length := by omega
    show overL (overL d.cur o.toNat (x.take p)) (o + p).toNat (x.drop p) = _
    rw [e, overL_over (by rw [List.length_drop]; omega), List.take_append_drop]

theorem store_cur {d : Dk} {o : Int} {x : List (List Cell)} (h0 : 0 ≤ o) (ho : o + x.length ≤ d.cur.length) (he : (d.store o x).e = 0) : (d.store o x).d.cur = overL d.cur o.toNat x := by
  have key : (d.write o x).e = 0 → (d.write o x).d.cur = overL d.cur o.toNat x := fun h => by
    unfold Dk.write at h ⊢
    split at h
    · exact absurd h (by assumption)
    · rename_i hc
      rw [if_neg hc]
      exact wrF_cur _ d o x h0 ho (by omega) h
  unfold Dk.store at he ⊢
  split
  · rename_i hw
    have := key hw
    unfold Dk.sync
    split
    · exact this
    · exact this
  · rename_i hw
    rw [if_neg hw] at he
    exact absurd he hw

theorem sub_over {b x : List (List Cell)} {i j : Nat} (h : x.length ≤ i) (hb : x.length ≤ b.length) : subL (overL b 0 x) i j = subL b i j := by
  rw [overL_eq, List.take_zero, List.nil_append, Nat.zero_add]
  have e := sub_app (b.take x.length) (b.drop x.length) (i := i) (j := j) (k := x.length) (by rw [List.length_take]; omega) h
  rw [List.take_append_drop] at e
  rw [e, sub_app x (b.drop x.length) rfl h]

theorem oT3 {d : Dk} {a g : Int} {b : List (List Cell)} {n : Int} {s : List (List Cell) × Int} {st : Dr} (h : DkOk d) (hq : d.q.length ≤ 2000000) (ha : okSeg a = true) (hg : okV g = true) (hb : okB b = true) (hbl : b.length ≤ 65536)
    (hs : s = wScan g b) (hn : n = b.length - s.2) (hst : st = d.store (a * d.half + 32 + s.2) (zeros n)) :
    (cond (okV g && okBl b) (cond (inB s.2 (b.length + 1)) (cond (okBl (dropN b (Int.toNat s.2))) (cond (!(zeroB (dropN b (Int.toNat s.2)))) (cond (okR d) (cond (okMake n n) (cond (okR d && okWx d (List.replicate (Int.toNat n) [Cell.int .u8 0]))
      (cond (st.e != 0) (some ([.one (.nilp), .one (.int .i64 st.e)], [rV st.d])) (some ([.one (.ptr 1 0), .one (.int .i64 0)], [rV st.d, lV 0 ⟨a, g, s.1, s.2, false⟩]))) none) none) none) (some ([.one (.ptr 1 0), .one (.int .i64 0)], [rV d, lV 0 ⟨a, g, s.1, s.2, false⟩]))) none) none) none) =
      some (Rr (openT d a g b)) := by
  subst hs hn hst
  have hr := wScan_range (g := g) hb
  have hbd := okB_drop hb (wScan g b).2.toNat
  rw [dropN_eq]
  refine ct (and_mk hg (and_mk hb (pd_t (by omega)))) (ct (inB_le (by omega) (by omega)) (ct (and_mk hbd (pd_t (by rw [List.length_drop]; omega))) ?_))
  unfold openT Rr
  cases hz : zeroB (b.drop (wScan g b).2.toNat) with
  | true =>
    rw [if_pos rfl]
    exact cf rfl rfl
  | false =>
    rw [if_neg (show ¬ (false = true) from Bool.false_ne_true)]
    refine ct rfl (ct (okR_mk h) (ct (okMake_mk (by omega) (by omega)) (ct (and_mk (okR_mk h) (okWx_mk (okB_rep _) (by rw [List.length_replicate]; omega))) ?_)))
    dsimp only
    by_cases h0 : (d.store (a * d.half + 32 + (wScan g b).2) (zeros (b.length - (wScan g b).2))).e = 0
    · rw [if_pos h0]
      exact cf (by rw [h0]; rfl) rfl
    · rw [if_neg h0]
      exact ct (by simpa using h0) rfl

theorem k23z (du qu : List (List Cell)) (dn am : Bool) (lf : Int) (h : okR (rD du qu dn am lf) = true) (hq : qu.length ≤ 1000000) : runF E (callOf L22b) 1 23 [.one (.ptr 0 0)] [rB du qu dn am lf] = some (R23 (rD du qu dn am lf)) := by
  have hd := okR_of h
  have hh := half_of hd
  have h1 : du.length ≤ 65536 := hd.le
  have hbc := hd.bc
  have hcl : (rD du qu dn am lf).cur.length = du.length := hd.cd
  have hdl : (rD du qu dn am lf).dur.length = du.length := rfl
  have hqd : (rD du qu dn am lf).q.length ≤ 1000000 := hq
  have hdn : (rD du qu dn am lf).down = dn := rfl
  rw [e23z, R23_eq]
  have hv0 := rD_view du qu dn am lf
  have hb0 : (Block.var [.sl false 5 du, .sl true 99 qu, .bool dn, .bool am, .int .i64 lf]) = rV (rD du qu dn am lf) := rfl
  simp (config := { zeta := false }) only [hb0]
  have eo : openM (rD du qu dn am lf) = if (rD du qu dn am lf).dur.length < 128 then ⟨(rD du qu dn am lf), Lg.none, 9⟩
    else if (rD du qu dn am lf).down = true then ⟨(rD du qu dn am lf), Lg.none, 15⟩ else if (rD du qu dn am lf).gen 0 = 0 ∧ (rD du qu dn am lf).gen 1 = 0 then
      if zeroB ((rD du qu dn am lf).area 0) = true ∧ zeroB ((rD du qu dn am lf).area 1) = true then
        if ((rD du qu dn am lf).store 0 (wHdr 1)).e = 0 then openT ((rD du qu dn am lf).store 0 (wHdr 1)).d 0 1 ((rD du qu dn am lf).area 0) else ⟨((rD du qu dn am lf).store 0 (wHdr 1)).d, Lg.none, ((rD du qu dn am lf).store 0 (wHdr 1)).e⟩
      else ⟨(rD du qu dn am lf), Lg.none, 2⟩
    else if (rD du qu dn am lf).gen 0 < (rD du qu dn am lf).gen 1 then openT (rD du qu dn am lf) 1 ((rD du qu dn am lf).gen 1) ((rD du qu dn am lf).area 1)
    else openT (rD du qu dn am lf) 0 ((rD du qu dn am lf).gen 0) ((rD du qu dn am lf).area 0) := rfl
  generalize hD : rD du qu dn am lf = d at *
  extract_lets z7 z8 z10 z14 z1 z6 z12 z13 z15 z16 z17 z4 z2 z9 z18 z5 z3 z11
  have seg0 : okSeg 0 = true := seg_mk (.inl rfl)
  have seg1 : okSeg 1 = true := seg_mk (.inr rfl)
  refine ct h ?_
  by_cases c1 : d.dur.length < 128
  · rw [eo, if_pos c1]
    exact ct (decide_eq_true (by unfold secs; omega)) rfl
  refine cf (decide_eq_false (by unfold secs; omega)) ?_
  by_cases c2 : dn = true
  · rw [eo, if_neg c1, if_pos (hdn.trans c2)]
    exact ct c2 rfl
  have c2' : dn = false := by simpa using c2
  refine cf c2' ?_
  have h64 := hh.2.2.2 (by omega)
  have n0 : (z16.length : Int) = d.half - 32 := by
    show ((d.area 0).length : Int) = _
    rw [Dk.area, subL_len (by omega)]; omega
  have n1 : (z15.length : Int) = d.half - 32 := by
    show ((d.area 1).length : Int) = _
    rw [Dk.area, subL_len (by omega)]; omega
  have b0 : okB z16 = true := okB_sub hbc _ _
  have b1 : okB z15 = true := okB_sub hbc _ _
  have r0 : 0 ≤ z18 ∧ z18 < 18446744073709551616 := wGen_range (okB_sub hbc _ _) (by rw [subL_len (by omega)]; omega)
  have r1 : 0 ≤ z17 ∧ z17 < 18446744073709551616 := wGen_range (okB_sub hbc _ _) (by rw [subL_len (by omega)]; omega)
  have s1 := wScan_range (g := z17) b1
  have s5 := wScan_range (g := z18) b0
  have s8 := wScan_range (g := 1) b0
  have g0 : (okR d && (okSeg 0 && pd (128 ≤ du.length))) = true := and_mk h (and_mk seg0 (pd_t (by omega)))
  have g1 : (okR d && (okSeg 1 && pd (128 ≤ du.length))) = true := and_mk h (and_mk seg1 (pd_t (by omega)))
  have w1 : IntKind.wrap .i64 ((z15.length : Int) - z4.2) = z15.length - z4.2 := wrap64 (by show _ ≤ (z15.length : Int) - (wScan z17 z15).2; omega) (by show (z15.length : Int) - (wScan z17 z15).2 ≤ _; omega)
  have w0 : IntKind.wrap .i64 ((z16.length : Int) - z5.2) = z16.length - z5.2 := wrap64 (by show _ ≤ (z16.length : Int) - (wScan z18 z16).2; omega) (by show (z16.length : Int) - (wScan z18 z16).2 ≤ _; omega)
  have e9 : z9 = d.store (1 * d.half + 32 + z4.2) (zeros (IntKind.wrap .i64 ((z15.length : Int) - z4.2))) := by
    have w : IntKind.wrap .i64 (z8 + z4.2) = 1 * d.half + 32 + z4.2 := by
      show IntKind.wrap .i64 (IntKind.wrap .i64 (IntKind.wrap .i64 (1 * d.half) + 32) + (wScan z17 z15).2) = 1 * d.half + 32 + (wScan z17 z15).2
      rw [wrap64 (n := 1 * d.half) (by omega) (by omega), wrap64 (n := 1 * d.half + 32) (by omega) (by omega), wrap64 (by omega) (by omega)]
    rw [← w]; rfl
  have e11 : z11 = d.store (0 * d.half + 32 + z5.2) (zeros (IntKind.wrap .i64 ((z16.length : Int) - z5.2))) := by
    have w : IntKind.wrap .i64 (z10 + z5.2) = 0 * d.half + 32 + z5.2 := by
      show IntKind.wrap .i64 (IntKind.wrap .i64 (IntKind.wrap .i64 (0 * d.half) + 32) + (wScan z18 z16).2) = 0 * d.half + 32 + (wScan z18 z16).2
      rw [wrap64 (n := 0 * d.half) (by omega) (by omega), wrap64 (n := 0 * d.half + 32) (by omega) (by omega), wrap64 (by omega) (by omega)]
    rw [← w]; rfl
  rw [if_neg c1, if_neg (by rw [hdn]; exact c2)] at eo
  refine ct g0 (ct g1 ?_)
  have T1 := oT3 (s := z4) (st := z9) hd (by omega) seg1 (okV_mk r1.1 r1.2) b1 (by omega) rfl w1 e9
  have T0 := oT3 (s := z5) (st := z11) hd (by omega) seg0 (okV_mk r0.1 r0.2) b0 (by omega) rfl w0 e11
  by_cases c3 : z18 = 0
  · refine ct (by rw [c3]; rfl) ?_
    by_cases c4 : z17 = 0
    · refine ct (by rw [c4]; rfl) (ct g0 (ct (and_mk b0 (pd_t (by omega))) ?_))
      rw [if_pos ⟨c3, c4⟩] at eo
      cases hz0 : zeroB z16 with
      | false =>
        have : ¬ (zeroB (d.area 0) = true ∧ zeroB (d.area 1) = true) := fun hc => by
          have := hc.1
          rw [show zeroB (d.area 0) = false from hz0] at this; cases this
        rw [eo, if_neg this]
        exact ct rfl rfl
      | true =>
        refine cf rfl (ct g1 (ct (and_mk b1 (pd_t (by omega))) ?_))
        cases hz1 : zeroB z15 with
        | false =>
          have : ¬ (zeroB (d.area 0) = true ∧ zeroB (d.area 1) = true) := fun hc => by
            have := hc.2
            rw [show zeroB (d.area 1) = false from hz1] at this; cases this
          rw [eo, if_neg this]
          exact ct rfl rfl
        | true =>
          rw [if_pos ⟨hz0, hz1⟩] at eo
          have hw : okB (wHdr 1) = true := wHdr_okB 1
          have hwl : (wHdr 1).length = 32 := wHdr_len 1
          refine cf rfl (ct (okV_mk (by omega) (by omega)) (ct (and_mk h (okWx_mk hw (by rw [hwl]; omega))) ?_))
          by_cases he : (d.store 0 (wHdr 1)).e = 0
          rotate_left
          · rw [eo, if_neg he]
            refine ct (by simpa using he) ?_
            unfold Rr
            rw [if_neg he]
          refine cf (by rw [he]; rfl) ?_
          rw [if_pos he] at eo
          have hk : Kept d (d.store 0 (wHdr 1)).d 32 := by
            have := store_kept (o := 0) hd hw (by rw [hwl]; omega)
            rwa [hwl] at this
          have hz1e : z1 = z14 := rD_of (store_view hv0 0 (wHdr 1))
          have hk' : Kept d z1 32 := by rw [hz1e]; exact hk
          have hkh := hk'.half
          have hkq := hk'.q
          have hz14 : (d.store 0 (wHdr 1)).d = z1 := hz1e.symm
          have hcu : z1.cur = overL d.cur 0 (wHdr 1) := by
            rw [← hz14]
            exact store_cur (by omega) (by rw [hwl]; omega) he
          have ha : z1.area 0 = z16 := by
            show subL z1.cur _ _ = subL d.cur _ _
            rw [hkh, hcu]
            exact sub_over (by omega) (by omega)
          rw [eo]
          have hb14 : (Block.var [.sl false 5 (Dk.dur z14), .sl true 99 (Dk.q z14), .bool (Dk.down z14), .bool (Dk.arm z14), .int .i64 (Dk.left z14)]) = rV z1 := rfl
          have w8 : IntKind.wrap .i64 ((z16.length : Int) - (wScan 1 z16).2) = z16.length - (wScan 1 z16).2 := wrap64 (by omega) (by omega)
          have e13 : z13 = z1.store (0 * z1.half + 32 + (wScan 1 z16).2) (zeros (IntKind.wrap .i64 ((z16.length : Int) - (wScan 1 z16).2))) := by
            have w : IntKind.wrap .i64 (z12 + (wScan 1 (z1.area 0)).2) = 0 * z1.half + 32 + (wScan 1 z16).2 := by
              rw [ha]
              show IntKind.wrap .i64 (IntKind.wrap .i64 (IntKind.wrap .i64 (0 * z1.half) + 32) + (wScan 1 z16).2) = 0 * z1.half + 32 + (wScan 1 z16).2
              rw [wrap64 (n := 0 * z1.half) (by omega) (by omega), wrap64 (n := 0 * z1.half + 32) (by omega) (by omega), wrap64 (by omega) (by omega)]
            show z1.store (IntKind.wrap .i64 (z12 + (wScan 1 (z1.area 0)).2)) (List.replicate (Int.toNat (IntKind.wrap .i64 (((z1.area 0).length : Int) - (wScan 1 (z1.area 0)).2))) [Cell.int .u8 0]) = _
            rw [w, ha]
            rfl
          have T := oT3 (s := wScan 1 z16) (st := z13) hk'.ok (by omega) seg0 (okV_mk (v := 1) (by omega) (by omega)) b0 (by omega) rfl w8 e13
          have hz6 : z6 = List.replicate (Int.toNat (IntKind.wrap .i64 ((z16.length : Int) - (wScan 1 z16).2))) [Cell.int .u8 0] := by
            show List.replicate (Int.toNat (IntKind.wrap .i64 (((z1.area 0).length : Int) - (wScan 1 (z1.area 0)).2))) [Cell.int .u8 0] = _
            rw [ha]
          rw [hb14, hz14, hz6, ha]
          refine ct (and_mk (okR_mk hk'.ok) (and_mk seg0 (pd_t ?_))) T
          show 128 ≤ z1.dur.length
          rw [hk'.len]
          omega
    · refine cf (beq_eq_false_iff_ne.mpr c4) ?_
      rw [if_neg (fun hc => c4 hc.2)] at eo
      have c5 : z18 < z17 := by omega
      rw [eo, if_pos c5]
      exact ct (decide_eq_true c5) (ct g1 T1)
  · refine cf (beq_eq_false_iff_ne.mpr c3) ?_
    rw [if_neg (fun hc => c3 hc.1)] at eo
    by_cases c5 : z18 < z17
    · rw [eo, if_pos c5]
      exact ct (decide_eq_true c5) (ct g1 T1)
    · rw [eo, if_neg c5]
      exact cf (decide_eq_false c5) (ct g0 T0)

end Go.Proofs.Ytpafnokcmhlbgaa

namespace Go.Proofs.Ytpafnokcmhlbgaa

open Go.Abs

theorem recB_okB {g o : Int} {b : List (List Cell)} (hb : okB b = true) : okB (recB g o b).1 = true := by
  unfold recB
  split
  · rfl
  · split
    · rfl
    · exact okB_sub hb _ _

theorem scan_recs : ∀ (k : Nat) (g o : Int) (b : List (List Cell)), okB b = true → ∀ r ∈ (scanF k g o b).1, okB (nl r 0) = true ∧ (nl r 0).length ≤ 30000
  | 0, _, _, _, _, r, hr => by cases hr
  | k + 1, g, o, b, hb, r, hr => by
    rw [scanF] at hr
    split at hr
    · rename_i h
      have hl := recB_len hb h
      rcases List.mem_cons.mp hr with rfl | hr
      · rw [nl_wRow]
        exact ⟨recB_okB hb, hl.2.1⟩
      · exact scan_recs k _ _ _ (okB_drop hb _) r hr
    · cases hr

structure OpT (d : Dk) (r : Lr) : Prop where
  good : Good r.d
  len : r.d.dur.length = d.dur.length
  lg : r.e = 0 → LgOk r.d r.l
  rs : r.e = 0 → okRs r.l.recs = true

theorem openT_any {d : Dk} (hg : Good d) (h128 : 128 ≤ d.dur.length) {a g : Int} {b : List (List Cell)} (ha : 0 ≤ a ∧ a ≤ 1) (hr : 0 ≤ g ∧ g < 18446744073709551616) (hb : okB b = true) (hl : (b.length : Int) = d.half - 32) : OpT d (openT d a g b) := by
  have hh := half_of hg.ok
  have h64 := hh.2.2.2 h128
  have hs := wScan_range (g := g) hb
  have hrs : okRs (wScan g b).1 = true := okRs_mk (by omega) (scan_recs _ _ _ _ hb)
  have hlg : ∀ e : Dk, e.half = d.half → ∀ f, LgOk e ⟨a, g, (wScan g b).1, (wScan g b).2, f⟩ := fun e he f => ⟨ha, hr, by omega, ⟨hs.1, by show (wScan g b).2 ≤ _; omega⟩, hs.2.2⟩
  unfold openT
  split
  · exact ⟨hg, rfl, fun _ => hlg d rfl _, fun _ => hrs⟩
  · have hsg := seg_half hg.ok (show a = 0 ∨ a = 1 by omega)
    have hz : (zeros (b.length - (wScan g b).2)).length = ((b.length : Int) - (wScan g b).2).toNat := List.length_replicate ..
    rw [store_good hg (by omega) (by rw [hz]; omega)]
    have hol : (overL d.dur (a * d.half + 32 + (wScan g b).2).toNat (zeros (b.length - (wScan g b).2))).length = d.dur.length := overL_len (by rw [hz]; omega)
    have hob : okB (overL d.dur (a * d.half + 32 + (wScan g b).2).toNat (zeros (b.length - (wScan g b).2))) = true := okB_over hg.ok.bd (okB_rep _) _
    exact ⟨onB_good hg hol hob, hol, fun _ => hlg _ (onB_half hol) _, fun _ => hrs⟩

theorem open_any {d : Dk} (hg : Good d) : OpT d (openM d) := by
  have hh := half_of hg.ok
  have hcd := hg.ok.cd
  unfold openM
  split
  · exact ⟨hg, rfl, (fun h => by cases h), (fun h => by cases h)⟩
  rename_i h1
  rw [if_neg (by rw [hg.down]; exact Bool.false_ne_true)]
  have h128 : 128 ≤ d.dur.length := by omega
  have h64 := hh.2.2.2 h128
  have gr : ∀ s : Int, 0 ≤ s ∧ s ≤ 1 → 0 ≤ d.gen s ∧ d.gen s < 18446744073709551616 := fun s hs => by
    have hsg := seg_half hg.ok (show s = 0 ∨ s = 1 by omega)
    exact wGen_range (okB_sub hg.ok.bc _ _) (by rw [subL_len (by omega)]; omega)
  have al : ∀ s : Int, 0 ≤ s ∧ s ≤ 1 → ((d.area s).length : Int) = d.half - 32 := fun s hs => by
    have hsg := seg_half hg.ok (show s = 0 ∨ s = 1 by omega)
    have e1 : (s + 1) * d.half = s * d.half + d.half := by rw [Int.add_mul, Int.one_mul]
    rw [Dk.area, subL_len (by omega)]; omega
  have ab : ∀ s : Int, okB (d.area s) = true := fun s => okB_sub hg.ok.bc _ _
  split
  · split
    · have hwl : (wHdr 1).length = 32 := wHdr_len 1
      rw [store_good hg (by omega) (by rw [hwl]; omega), if_pos rfl]
      have hol : (overL d.dur (0 : Int).toNat (wHdr 1)).length = d.dur.length := overL_len (by rw [hwl]; show 0 + 32 ≤ _; omega)
      have hg' := onB_good hg hol (okB_over hg.ok.bd (wHdr_okB 1) _)
      have h := openT_any (a := 0) (g := 1) (b := d.area 0) hg' (by show 128 ≤ (overL d.dur (0 : Int).toNat (wHdr 1)).length; omega) (by omega) (by omega) (ab 0) (by rw [onB_half hol]; exact al 0 (by omega))
      exact ⟨h.good, by rw [h.len]; exact hol, h.lg, h.rs⟩
    · exact ⟨hg, rfl, (fun h => by cases h), (fun h => by cases h)⟩
  · split
    · exact openT_any hg h128 (by omega) (gr 1 (by omega)) (ab 1) (al 1 (by omega))
    · exact openT_any hg h128 (by omega) (gr 0 (by omega)) (ab 0) (al 0 (by omega))

theorem wrF_calm : ∀ (k : Nat) (d : Dk) (o : Int) (x : List (List Cell)), d.arm = false → (wrF k d o x).d.arm = false ∧ (wrF k d o x).d.down = d.down
  | 0, d, o, x, h => ⟨h, rfl⟩
  | k + 1, d, o, x, h => by
    rw [wrF]
    split
    · exact ⟨h, rfl⟩
    · rw [if_neg (by simp [h])]
      exact wrF_calm k _ _ _ h

structure WR (d : Dk) (L B : Nat) : Prop where
  ok : DkOk d
  view : d.cur = putQ d.dur d.q
  arm : d.arm = false
  down : d.down = false
  len : d.dur.length = L
  q : d.q.length ≤ B

theorem WR.write {d : Dk} {L B : Nat} (h : WR d L B) {x : List (List Cell)} (hx : okB x = true) (o : Int) (C : Nat) (hc : B + x.length ≤ C) (hb : C ≤ 4000000) : WR (d.write o x).d L C := by
  have hq := h.q
  have hk := write_kept (o := o) h.ok hx (by omega)
  have hkq := hk.q
  have hc2 : (d.write o x).d.arm = false ∧ (d.write o x).d.down = d.down := by
    unfold Dk.write
    split
    · exact ⟨h.arm, rfl⟩
    · exact wrF_calm _ d o x h.arm
  exact ⟨hk.ok, write_view h.view o x, hc2.1, by rw [hc2.2]; exact h.down, by rw [hk.len]; exact h.len, by omega⟩

theorem WR.okDk {d : Dk} {L B : Nat} (h : WR d L B) : okDk L L d = true := okDk_mk h.len.symm (by rw [h.ok.cd]; exact h.len.symm) h.ok

theorem WR.rd {d : Dk} {L B : Nat} (h : WR d L B) : rD d.dur d.q d.down d.arm d.left = d := rD_of h.view

theorem WR.sync {d : Dk} {L B : Nat} (h : WR d L B) : Good d.sync.d ∧ d.sync.d.dur.length = L := by
  have hs : d.sync.d = ⟨d.cur, d.cur, [], false, d.left, false⟩ := by
    unfold Dk.sync
    rw [if_neg (by rw [h.down]; exact Bool.false_ne_true)]
    rw [← h.view, h.arm, h.down]
  have hcd := h.ok.cd
  rw [hs]
  exact ⟨⟨⟨rfl, by show 32 ≤ d.cur.length; rw [hcd]; exact h.ok.pos, by show d.cur.length ≤ 65536; rw [hcd]; exact h.ok.le, by show d.cur.length % 32 = 0; rw [hcd]; exact h.ok.sec, (fun r hr => by cases hr), by show 0 ≤ 4000000; omega, h.ok.left, h.ok.bc, h.ok.bc⟩, rfl, rfl, rfl, rfl⟩, by show d.cur.length = L; rw [hcd]; exact h.len⟩

theorem Good.rd {d : Dk} (h : Good d) : rD d.dur d.q d.down d.arm d.left = d := rD_of (by rw [h.q]; exact h.cur)

theorem okM3_t {d : Dk} (h : (openM d).e = 0) : okM3 d = true := by
  have e : okO d = true := pd_t h
  unfold okM3 R23 tl23 tl22
  rw [e]
  rfl

theorem okM3_f {d : Dk} (h : (openM d).e ≠ 0) : okM3 d = false := by
  have e : okO d = false := by
    cases hc : okO d with
    | false => rfl
    | true => exact absurd (pd_of hc) h
  unfold okM3 R23 tl23 tl22
  rw [e]
  rfl

theorem okF3_t {d : Dk} (h : (openM d).e ≠ 0) : okF3 d = true := by
  have e : okO d = false := by
    cases hc : okO d with
    | false => rfl
    | true => exact absurd (pd_of hc) h
  unfold okF3 R23 tl23 tl22
  rw [e]
  rfl

theorem all_toBytes {d : Dk} (h : Good d) : (Dk.all d == toBytes (putQ d.dur d.q)) = true := by
  unfold Dk.all
  rw [if_neg (by rw [h.down]; exact Bool.false_ne_true), h.q, h.cur]
  exact beq_self_eq_true _

theorem l3_2 {d : Dk} {L B : Nat} (h : WR d L B) (m : Nat) : goF E (callOf L23b) F3 0 (m + 1) P3_2 (M3_2 L L d.q d.arm d.left d.down d.dur d.cur d.dur d.q d.down d.arm d.left) = some ([.one (.bool true)], []) := by
  obtain ⟨hg, hl⟩ := h.sync
  have ho := open_any hg
  rw [e3_2]
  dsimp only
  rw [dk_eta, h.rd]
  refine ct h.okDk (ct (okR_mk h.ok) ?_)
  rw [hg.rd]
  generalize d.sync.d = e at *
  have hgo := ho.good
  rw [hgo.rd]
  have q0 : pd (e.q.length ≤ 1000000) = true := pd_t (by rw [hg.q]; exact Nat.zero_le _)
  have okE : okDk L L e = true := okDk_mk hl.symm (by rw [hg.ok.cd]; exact hl.symm) hg.ok
  have okO : okDk L L (openM e).d = true := okDk_mk (by rw [ho.len]; exact hl.symm) (by rw [hgo.ok.cd, ho.len]; exact hl.symm) hgo.ok
  refine ct (and_mk okE q0) ?_
  by_cases he : (openM e).e = 0
  · have hlg := okLg_mk (ho.lg he)
    refine ct (okM_t he) (ct (and_mk (okR_mk hg.ok) q0) (ct (okM3_t he) (cf (by rw [he]; rfl) (cf (by rw [he]; rfl) (ct okO (ct (okR_mk hgo.ok) (cf (by rw [all_toBytes hgo]; rfl) (cf (by rw [he]; rfl) ?_))))))))
    have e3 : tl23 e = tl22 e := rfl
    rw [e3, oL_t he]
    have hrs := okRs_of (ho.rs he)
    have hcl := cloneR_len (openM e).l.recs
    exact ct (ho.rs he) (ct (pd_t (by omega)) (ct (sameR_clone _) (ct (beq_self_eq_true _) (ct (and_mk okO hlg) (ct (and_mk (okR_mk hgo.ok) hlg) (ct (beq_self_eq_true _) rfl))))))
  · have hne : ((openM e).e != 0) = true := by simpa using he
    exact cf (okM_f he) (ct (okF_t he) (ct (and_mk (okR_mk hg.ok) q0) (cf (okM3_f he) (ct (okF3_t he) (cf (by simp) (cf (by rw [hne]; rfl) (ct okO (ct (okR_mk hgo.ok) (cf (by rw [all_toBytes hgo]; rfl) (ct hne rfl))))))))))

theorem tail3 {d : Dk} {L B : Nat} (h : WR d L B) (hB : B ≤ 100000) {t3 : Int} {t19 : List (List Cell)} (hx : okB t19 = true) (hxl : t19.length ≤ 200) (m : Nat) :
    cond ((Int.tmod t3 7) == 0)
     (cond (okDk L L d && (okR d && (okWx d t19 && (okWx d t19 && (pd ((0 : Int) ≤ 0) && pd ((0 : Int) ≤ (1000000 : Int)))))))
      (goF E (callOf L23b) F3 0 (m + 1) P3_2 (M3_2 L L (d.write 0 (cutX t19 d.dur.length 0)).d.q (d.write 0 (cutX t19 d.dur.length 0)).d.arm (d.write 0 (cutX t19 d.dur.length 0)).d.left (d.write 0 (cutX t19 d.dur.length 0)).d.down (d.write 0 (cutX t19 d.dur.length 0)).d.dur (d.write 0 (cutX t19 d.dur.length 0)).d.cur (d.write 0 (cutX t19 d.dur.length 0)).d.dur (d.write 0 (cutX t19 d.dur.length 0)).d.q (d.write 0 (cutX t19 d.dur.length 0)).d.down (d.write 0 (cutX t19 d.dur.length 0)).d.arm (d.write 0 (cutX t19 d.dur.length 0)).d.left))
      none)
     (goF E (callOf L23b) F3 0 (m + 1) P3_2 (M3_2 L L d.q d.arm d.left d.down d.dur d.cur d.dur d.q d.down d.arm d.left)) = some ([.one (.bool true)], []) := by
  have hq := h.q
  have hw := h.write (okB_take hx ((d.dur.length : Int) - 0).toNat) 0 (B + 200) (by rw [List.length_take]; omega) (by omega)
  cases (Int.tmod t3 7 == 0) with
  | true => exact ct rfl (ct (and_mk h.okDk (and_mk (okR_mk h.ok) (and_mk (okWx_mk hx (by omega)) (and_mk (okWx_mk hx (by omega)) (and_mk (pd_t (by omega)) (pd_t (by omega))))))) (l3_2 hw m))
  | false => exact cf rfl (l3_2 h m)

theorem l3_1 {t2 : List (List Cell)} {t3 t4 : Int} {t5 : List (List Cell)} {t6 t18 : Int} {t19 : List (List Cell)} {t20 t21 : Int} {s : List (List Cell)} {L C : Nat} (h2 : okB t2 = true) (h18 : 64 ≤ t18 ∧ t18 ≤ 32768) (h20 : 0 ≤ t20 ∧ t20 ≤ 1) (h21 : 0 ≤ t21 ∧ t21 < 5) (hs : ∀ r ∈ s, okB (nl r 0) = true ∧ (nl r 0).length ≤ 41) (hsl : s.length ≤ 4) (hL : L ≤ 65536) (hC : C ≤ 100000)
    (next : ∀ d, WR d L C → ∃ m, goF E (callOf L23b) F3 0 m P3_0 (M3_0 t2 t3 t4 t5 t6 t18 t19 (t20 + 1) L L d.q d.arm d.left d.down d.dur d.cur d.dur d.q d.down d.arm d.left) = some ([.one (.bool true)], [])) :
    ∀ (k i : Nat) (o : Int) (d : Dk) (B : Nat), i + k = s.length → 0 ≤ o → o ≤ 100 * i → WR d L B → B + 60 * k + 3 ≤ C → ∃ m, goF E (callOf L23b) F3 0 m P3_1 (M3_1 t2 t3 t4 t5 t6 t18 t19 t20 t21 o s i L L d.q d.arm d.left d.down d.dur d.cur d.dur d.q d.down d.arm d.left) = some ([.one (.bool true)], []) := by
  have hp : 0 ≤ t20 * t18 ∧ t20 * t18 ≤ 32768 := by
    rcases (show t20 = 0 ∨ t20 = 1 by omega) with rfl | rfl <;> omega
  intro k
  induction k with
  | zero =>
    intro i o d B hi h0 ho h hB
    have hl := h.len
    have hgi := gIndex_of (n := t6) (k := ((L : Int) + 1)) (by omega)
    have hq := h.q
    have hw := h.write (okB_take (okB_take h2 (Int.toNat 3)) ((d.dur.length : Int) - gIndex t6 (L + 1)).toNat) (gIndex t6 (L + 1)) C (by rw [List.length_take, List.length_take]; show _ + min _ (min 3 _) ≤ _; omega) (by omega)
    obtain ⟨m, hm⟩ := next _ hw
    refine ⟨m + 1, ?_⟩
    rw [e3_1]
    dsimp only
    rw [dk_eta, h.rd, wrap64 (n := (d.dur.length : Int) + 1) (by omega) (by omega), hl, wrap64 (n := t20 + 1) (by omega) (by omega)]
    rw [hl] at hm
    have h3 : okB (t2.take (Int.toNat 3)) = true := okB_take h2 _
    have h3l : (t2.take (Int.toNat 3)).length ≤ 3 := by rw [List.length_take]; show min 3 _ ≤ 3; omega
    exact cf (decide_eq_false (by omega)) (ct (pd_t (by omega)) (ct (and_mk (pd_t (by omega)) (pd_t (by omega))) (ct (and_mk h.okDk (and_mk (okR_mk h.ok) (and_mk (okWx_mk h3 (by omega)) (and_mk (okWx_mk h3 (by omega)) (and_mk (pd_t (by omega)) (pd_t (by omega))))))) hm)))
  | succ k ih =>
    intro i o d B hi h0 ho h hB
    have hl := h.len
    have hq := h.q
    have hr := hs _ (rowAt_mem (x := s) (i := i) (by omega))
    generalize hy : nl (Abs.rowAt s i) 0 = y at hr
    have hwo := wEnc_okB t21 o hr.1
    have hwl := wEnc_len t21 o y
    have hw := h.write (okB_take hwo ((d.dur.length : Int) - (t20 * t18 + 32 + o)).toNat) (t20 * t18 + 32 + o) (B + 60) (by rw [List.length_take]; omega) (by omega)
    obtain ⟨m, hm⟩ := ih (i + 1) (o + (y.length + 10)) _ _ (by omega) (by omega) (by omega) hw (by omega)
    refine ⟨m + 1, ?_⟩
    rw [e3_1]
    dsimp only
    rw [dk_eta, h.rd, Int.toNat_natCast, hy, wrap64 (n := t20 * t18) (by omega) (by omega), wrap64 (n := t20 * t18 + 32) (by omega) (by omega), wrap64 (n := t20 * t18 + 32 + o) (by omega) (by omega), hwl, wrap64 (n := (i : Int) + 1) (by omega) (by omega), wrap64 (n := o + ((y.length + 10 : Nat) : Int)) (by omega) (by omega)]
    refine ct (decide_eq_true (by omega)) (ct (inB_nat' (by omega)) (ct (and_mk (okV_mk (by omega) (by omega)) (and_mk hr.1 (and_mk (pd_t h0) (and_mk (pd_t (by omega)) (pd_t (by omega)))))) (ct (and_mk h.okDk (and_mk (okR_mk h.ok) (and_mk (okWx_mk hwo (by omega)) (and_mk (okWx_mk hwo (by omega)) (and_mk (pd_t (by omega)) (pd_t (by omega))))))) ?_)))
    exact_mod_cast hm

theorem l3_0 {t2 : List (List Cell)} {t3 t4 : Int} {t5 : List (List Cell)} {t6 t18 : Int} {t19 : List (List Cell)} {t20 : Int} {L B : Nat} (h2 : okB t2 = true) (h18 : 0 ≤ t18 ∧ t18 ≤ 32768) (h20 : 0 ≤ t20) (h5l : t5.length ≤ 9223372036854775807) (h5 : ∀ q ∈ t5, okB (nl q 0) = true) (h19 : okB t19 = true) (h19l : t19.length ≤ 200) (hL : L ≤ 65536) (hB : B ≤ 10000)
    (next : t20 ≤ 1 → ∀ d, WR d L (B + 300) → ∃ m, goF E (callOf L23b) F3 0 m P3_0 (M3_0 t2 t3 t4 t5 t6 t18 t19 (t20 + 1) L L d.q d.arm d.left d.down d.dur d.cur d.dur d.q d.down d.arm d.left) = some ([.one (.bool true)], [])) :
    ∀ d, WR d L B → ∃ m, goF E (callOf L23b) F3 0 m P3_0 (M3_0 t2 t3 t4 t5 t6 t18 t19 t20 L L d.q d.arm d.left d.down d.dur d.cur d.dur d.q d.down d.arm d.left) = some ([.one (.bool true)], []) := by
  intro d h
  have hl := h.len
  have hq := h.q
  have hT := tail3 h (by omega) (t3 := t3) h19 h19l 0
  by_cases c1 : t20 < 2
  rotate_left
  · refine ⟨2, ?_⟩
    rw [e3_0]
    dsimp only
    rw [dk_eta, h.rd]
    exact cf (decide_eq_false c1) hT
  by_cases c2 : 64 ≤ t18
  rotate_left
  · refine ⟨2, ?_⟩
    rw [e3_0]
    dsimp only
    rw [dk_eta, h.rd]
    exact ct (decide_eq_true c1) (cf (decide_eq_false c2) hT)
  have hM := mkRs_of h5 4
  have hgi := gIndex_of (n := intAt [.int .i64 t3, .int .i64 t4] (Int.toNat t20)) (k := 5) (by omega)
  have hin := l3_1 (t2 := t2) (t3 := t3) (t4 := t4) (t5 := t5) (t6 := t6) (t19 := t19) (t20 := t20) (t21 := gIndex (intAt [.int .i64 t3, .int .i64 t4] (Int.toNat t20)) 5) (s := mkRs t5 4) (C := B + 300) h2 ⟨c2, h18.2⟩ (by omega) hgi (fun r hr => ⟨(hM.1 r hr).1, (hM.1 r hr).2.2.1⟩) hM.2 hL (by omega) (next (by omega)) (mkRs t5 4).length 0 0
  have hM4 : (mkRs t5 4).length ≤ 4 := hM.2
  have hp : 0 ≤ t20 * t18 ∧ t20 * t18 ≤ 32768 := by
    rcases (show t20 = 0 ∨ t20 = 1 by omega) with rfl | rfl <;> omega
  generalize hG : gIndex (intAt [.int .i64 t3, .int .i64 t4] (Int.toNat t20)) 5 = G at *
  have hd4 : (pd (t5.length ≤ 9223372036854775807) && pd ((4 : Int) ≤ (1000 : Int))) = true := and_mk (pd_t h5l) (pd_t (by omega))
  by_cases c3 : G < 4
  · have hho := wHdr_okB G
    have hhl := wHdr_len G
    have hw := h.write (okB_take hho ((d.dur.length : Int) - t20 * t18).toNat) (t20 * t18) (B + 32) (by rw [List.length_take]; omega) (by omega)
    obtain ⟨m, hm⟩ := hin _ (B + 32) (by omega) (by omega) (by omega) hw (by omega)
    refine ⟨m + 1, ?_⟩
    rw [e3_0]
    dsimp only
    rw [dk_eta, h.rd, hG, wrapu (n := G) (by omega) (by omega), wrap64 (n := t20 * t18) (by omega) (by omega)]
    refine ct (decide_eq_true c1) (ct (decide_eq_true c2) (ct (inB_mk h20 c1) (ct (pd_t (by omega)) (ct (decide_eq_true c3) (ct (okV_mk (by omega) (by omega)) (ct (and_mk h.okDk (and_mk (okR_mk h.ok) (and_mk (okWx_mk hho (by omega)) (and_mk (okWx_mk hho (by omega)) (and_mk (pd_t (by omega)) (pd_t (by omega))))))) (ct hd4 ?_)))))))
    exact hm
  · obtain ⟨m, hm⟩ := hin d B (by omega) (by omega) (by omega) h (by omega)
    refine ⟨m + 1, ?_⟩
    rw [e3_0]
    dsimp only
    rw [dk_eta, h.rd, hG, wrapu (n := G) (by omega) (by omega)]
    exact ct (decide_eq_true c1) (ct (decide_eq_true c2) (ct (inB_mk h20 c1) (ct (pd_t (by omega)) (cf (decide_eq_false c3) (ct hd4 hm)))))

theorem k3 (z : Int) (a b : List (List Cell)) (g h : Int) (r : List (List Cell)) (w : Int) (ha : okB a = true) (hb : okB b = true) (hr : okArg r = true) : ∃ m, runF E (callOf L23b) m 3 [.one (.int .i64 z), .one (.sl false 5 a), .one (.sl false 5 b), .one (.int .i64 g), .one (.int .i64 h), .one (.sl false 22 r), .one (.int .i64 w)] [] = some ([.one (.bool true)], []) := by
  obtain ⟨hr1, hr2⟩ := okArg_of hr
  obtain ⟨n1, n2, n3, n4⟩ := secN_of (gIndex z 16)
  have hlen : (newDk (gIndex z 16)).dur.length = secN (gIndex z 16) := List.length_replicate ..
  have hw : WR (newDk (gIndex z 16)) (secN (gIndex z 16)) 0 := ⟨new_ok _, rfl, rfl, rfl, hlen, Nat.le_refl _⟩
  have hsec : secs (newDk (gIndex z 16)).dur = ((secN (gIndex z 16) / 32 : Nat) : Int) := by unfold secs; rw [hlen]
  have h18 : IntKind.wrap .i64 ((IntKind.wrap .i64 (Int.tdiv (secs (newDk (gIndex z 16)).dur) 2)) * 32) = ((secN (gIndex z 16) / 32 / 2 * 32 : Nat) : Int) := by
    rw [hsec, Int.tdiv_eq_ediv_of_nonneg (by omega), wrap64 (n := ((secN (gIndex z 16) / 32 : Nat) : Int) / 2) (by omega) (by omega), wrap64 (by omega) (by omega)]
    omega
  have hal : (a.take (Int.toNat 200)).length ≤ 200 := by rw [List.length_take]; show min 200 _ ≤ 200; omega
  have hao : okB (a.take (Int.toNat 200)) = true := okB_take ha _
  have r2 := l3_0 (t2 := b) (t3 := g) (t4 := h) (t5 := r) (t6 := w) (t18 := ((secN (gIndex z 16) / 32 / 2 * 32 : Nat) : Int)) (t19 := a.take (Int.toNat 200)) (t20 := 2) (L := secN (gIndex z 16)) (B := 600) hb (by omega) (by omega) hr1 hr2 hao hal n3 (by omega) (fun hc => absurd hc (by omega))
  have r1 := l3_0 (t2 := b) (t3 := g) (t4 := h) (t5 := r) (t6 := w) (t18 := ((secN (gIndex z 16) / 32 / 2 * 32 : Nat) : Int)) (t19 := a.take (Int.toNat 200)) (t20 := 1) (L := secN (gIndex z 16)) (B := 300) hb (by omega) (by omega) hr1 hr2 hao hal n3 (by omega) (fun _ => r2)
  have r0 := l3_0 (t2 := b) (t3 := g) (t4 := h) (t5 := r) (t6 := w) (t18 := ((secN (gIndex z 16) / 32 / 2 * 32 : Nat) : Int)) (t19 := a.take (Int.toNat 200)) (t20 := 0) (L := secN (gIndex z 16)) (B := 0) hb (by omega) (by omega) hr1 hr2 hao hal n3 (by omega) (fun _ => r1)
  obtain ⟨m, hm⟩ := r0 _ hw
  refine ⟨m + 1, ?_⟩
  rw [e3, h18]
  exact ct (pd_t (by omega)) (ct (okR_mk (new_ok _)) (ct (and_mk (pd_t (by omega)) (pd_t (by omega))) hm))

end Go.Proofs.Ytpafnokcmhlbgaa

namespace Go.Abs

variable {E : Env} {P : Program}

def FnOk (P : Program) (E : Env) (f : Nat) : FnDef → Prop
  | .code fn => CodeOk P f fn
  | .prim g => PrimOk P E f g

def AllFn (P : Program) (E : Env) : List (Nat × (Sig × FnDef)) → Prop
  | [] => True
  | x :: r => FnOk P E x.1 x.2.2 ∧ AllFn P E r

theorem allFn_mem : ∀ {l : List (Nat × (Sig × FnDef))}, AllFn P E l → ∀ x ∈ l, FnOk P E x.1 x.2.2
  | [], _, _, h => by cases h
  | y :: r, h, x, hx => by
    rcases List.mem_cons.1 hx with rfl | hx
    · exact h.1
    · exact allFn_mem h.2 x hx

theorem funcsOk_of {l : List (Nat × (Sig × FnDef))} (hE : E.funcs = lookT l) (h : AllFn P E l) : FuncsOk P E := by
  refine ⟨fun f sg fn hf => ?_, fun f sg g hf => ?_⟩ <;> rw [hE] at hf <;> exact allFn_mem h _ (lookT_mem hf)

theorem row_cons {r : Row} {k : CK} {ks : List CK} (h : r.map Cell.kind = k :: ks) : ∃ c r', r = c :: r' ∧ c.kind = k ∧ r'.map Cell.kind = ks := by
  cases r with
  | nil => cases h
  | cons c r' =>
    rw [List.map_cons, List.cons.injEq] at h
    exact ⟨c, r', rfl, h.1, h.2⟩

theorem row_nil {r : Row} (h : r.map Cell.kind = []) : r = [] := List.map_eq_nil_iff.1 h

theorem kind_int {c : Cell} {k : IntKind} (h : c.kind = .int k) : ∃ n, c = .int k n := by
  cases c <;> cases h
  exact ⟨_, rfl⟩

theorem kind_slice {c : Cell} {e : TypeId} (h : c.kind = .slice e) : ∃ r, c = .slice e r := by
  cases c <;> cases h
  exact ⟨_, rfl⟩

theorem argsOk_nil {rows : List Row} (h : ArgsOk E [] rows) : rows = [] := by
  cases rows with
  | nil => rfl
  | cons _ _ => exact h.elim

theorem argsOk_cons {t : TypeId} {ts : List TypeId} {rows : List Row} {ks : List CK} (h : ArgsOk E (t :: ts) rows) (hk : (E.tys t).map Ty.kinds = some ks) : ∃ r rs, rows = r :: rs ∧ r.map Cell.kind = ks ∧ (∀ c ∈ r, Cell.Wf E c) ∧ ArgsOk E ts rs := by
  cases rows with
  | nil => exact h.elim
  | cons r rs =>
    obtain ⟨⟨ty, h1, h2, h3⟩, h4⟩ := h
    rw [h1] at hk
    exact ⟨r, rs, rfl, h2.trans (Option.some.inj hk), h3, h4⟩

theorem wf_int {k : IntKind} {n : Int} (h : Cell.Wf E (.int k n)) : k.min ≤ n ∧ n ≤ k.max := by
  cases h with
  | int _ _ h => simpa [Lit.wf] using h

theorem wf_u8 {n : Int} (h : Cell.Wf E (.int .u8 n)) : 0 ≤ n ∧ n ≤ 255 := by
  have := wf_int h
  simpa [IntKind.min, IntKind.max, IntKind.signed, IntKind.bits] using this

theorem wf_slice {e : TypeId} {rows : Rows} {ks : List CK} (h : Cell.Wf E (.slice e rows)) (hk : (E.tys e).map Ty.kinds = some ks) : (∀ r ∈ rows, r.map Cell.kind = ks) ∧ rows.length ≤ maxLen ∧ ∀ r ∈ rows, ∀ c ∈ r, Cell.Wf E c := by
  cases h with
  | slice _ _ te he h1 h2 h3 =>
    rw [he] at hk
    exact ⟨fun r hr => (h1 r hr).trans (Option.some.inj hk), h2, h3⟩

theorem argsOk_wf {t : TypeId} {ts : List TypeId} {r : Row} {rs : List Row} (h : ArgsOk E (t :: ts) (r :: rs)) : (∀ c ∈ r, Cell.Wf E c) ∧ ArgsOk E ts rs := by
  obtain ⟨⟨ty, h1, h2, h3⟩, h4⟩ := h
  exact ⟨h3, h4⟩

end Go.Abs

namespace Go.Proofs.Ytpafnokcmhlbgaa

open Go.Abs

theorem okBl_of {x : List (List Cell)} (h : okBl x = true) : okB x = true ∧ x.length ≤ 1000000 := by
  unfold okBl at h
  simp only [Bool.and_eq_true] at h
  exact ⟨h.1, pd_of h.2⟩

theorem okMx_of {n : Nat} {x : List (List Cell)} (h : okMx n x = true) : n = x.length ∧ x.length ≤ 1000000 := by
  unfold okMx at h
  simp only [Bool.and_eq_true] at h
  exact ⟨Nat.eq_of_beq_eq_true h.1, pd_of h.2⟩

theorem okWa_of {lo n c k : Nat} {x : List (List Cell)} (h : okWa lo n c x k = true) : 0 < x.length ∧ n + k ≤ c ∧ lo + n + k ≤ x.length := by
  unfold okWa at h
  simp only [Bool.and_eq_true] at h
  exact ⟨pd_of h.1, pd_of h.2.1, pd_of h.2.2⟩

theorem okWb_of {lo n : Nat} {x : List (List Cell)} (h : okWb lo n x = true) : lo + n ≤ x.length ∧ n ≤ 1000000 := by
  unfold okWb at h
  simp only [Bool.and_eq_true] at h
  exact ⟨pd_of h.1, pd_of h.2.2⟩

theorem okRx_of {o : Int} {y : List (List Cell)} (h : okRx o y = true) : okB y = true ∧ 0 ≤ o ∧ o ≤ 4611686018427387904 ∧ y.length ≤ 30000 := by
  unfold okRx at h
  simp only [Bool.and_eq_true] at h
  exact ⟨h.1, pd_of h.2.1, pd_of h.2.2.1, pd_of h.2.2.2⟩

theorem v11 : ∀ args blk r, s11 args blk = (true, r) → ∃ n, runF E (callOf L) n 11 args blk = some r ∨ run E n 11 args blk = (true, r) := by
  intro args blk r h
  unfold s11 at h
  split at h
  · obtain ⟨g, rfl⟩ := guarded h
    exact ⟨1, .inl (k11 _ _ (pd_of g))⟩
  · cases h

theorem v72 : ∀ args blk r, s72 args blk = (true, r) → ∃ n, runF E (callOf L11) n 72 args blk = some r ∨ run E n 72 args blk = (true, r) := by
  intro args blk r h
  unfold s72 at h
  split at h
  · obtain ⟨g, rfl⟩ := guarded h
    simp only [Bool.and_eq_true] at g
    obtain ⟨g0, g1, g2⟩ := g
    obtain ⟨hn, hx⟩ := okMx_of g2
    rcases okSz_of g1 with rfl | rfl
    · exact ⟨1, .inl (k72b _ _ _ hn hx)⟩
    · exact ⟨1, .inl (k72 _ _ _ hn hx)⟩
  · obtain ⟨g, rfl⟩ := guarded h
    simp only [Bool.and_eq_true] at g
    obtain ⟨g0, g1, g2⟩ := g
    obtain ⟨h0, hc, hx⟩ := okWa_of g2
    rcases okSz_of g1 with rfl | rfl
    · exact ⟨1, .inl (k72d _ _ _ _ _ h0 hc hx)⟩
    · exact ⟨1, .inl (k72c _ _ _ _ _ h0 hc hx)⟩
  · cases h

theorem v73 : ∀ args blk r, s73 args blk = (true, r) → ∃ n, runF E (callOf L72) n 73 args blk = some r ∨ run E n 73 args blk = (true, r) := by
  intro args blk r h
  unfold s73 at h
  split at h
  · obtain ⟨g, rfl⟩ := guarded h
    obtain ⟨n, hn⟩ := k73 _ (okBl_of g).2
    exact ⟨n, .inl hn⟩
  · obtain ⟨g, rfl⟩ := guarded h
    simp only [Bool.and_eq_true] at g
    obtain ⟨n, hn⟩ := k73b _ _ (okBl_of g.1).2 (Nat.eq_of_beq_eq_true g.2)
    exact ⟨n, .inl hn⟩
  · obtain ⟨g, rfl⟩ := guarded h
    obtain ⟨h1, h2⟩ := okWb_of g
    obtain ⟨n, hn⟩ := k73c _ _ _ _ h1 h2
    exact ⟨n, .inl hn⟩
  · cases h

theorem v71 : ∀ args blk r, s71 args blk = (true, r) → ∃ n, runF E (callOf L73) n 71 args blk = some r ∨ run E n 71 args blk = (true, r) := by
  intro args blk r h
  unfold s71 at h
  split at h
  · obtain ⟨g, rfl⟩ := guarded h
    simp only [Bool.and_eq_true] at g
    obtain ⟨n, hn⟩ := k71 _ g.1 (pd_of g.2)
    exact ⟨n, .inl hn⟩
  · cases h

theorem v51 : ∀ args blk r, s51 args blk = (true, r) → ∃ n, runF E (callOf L71) n 51 args blk = some r ∨ run E n 51 args blk = (true, r) := by
  intro args blk r h
  unfold s51 at h
  split at h
  · obtain ⟨g, rfl⟩ := guarded h
    exact ⟨1, .inl (k51 _ g)⟩
  · cases h

theorem v46 : ∀ args blk r, s46 args blk = (true, r) → ∃ n, runF E (callOf L51) n 46 args blk = some r ∨ run E n 46 args blk = (true, r) := by
  intro args blk r h
  unfold s46 at h
  split at h
  · obtain ⟨g, rfl⟩ := guarded h
    simp only [Bool.and_eq_true] at g
    exact ⟨1, .inl (k46 _ g.1 (pd_of g.2))⟩
  · cases h

theorem v77 : ∀ args blk r, s77 args blk = (true, r) → ∃ n, runF E (callOf L46) n 77 args blk = some r ∨ run E n 77 args blk = (true, r) := by
  intro args blk r h
  unfold s77 at h
  split at h
  · obtain ⟨g, rfl⟩ := guarded h
    simp only [Bool.and_eq_true] at g
    obtain ⟨h1, h2, h3, h4⟩ := okRx_of g.2
    exact ⟨1, .inl (k77 _ _ _ g.1 h2 h3 h1 h4)⟩
  · cases h

theorem v63 : ∀ args blk r, s63 args blk = (true, r) → ∃ n, runF E (callOf L77) n 63 args blk = some r ∨ run E n 63 args blk = (true, r) := by
  intro args blk r h
  unfold s63 at h
  split at h
  · obtain ⟨g, rfl⟩ := guarded h
    simp only [Bool.and_eq_true] at g
    obtain ⟨h1, h2, h3, h4⟩ := okRx_of g.2
    exact ⟨1, .inl (k63 _ _ _ g.1 h2 h3 h1 h4)⟩
  · obtain ⟨g, rfl⟩ := guarded h
    simp only [Bool.and_eq_true] at g
    obtain ⟨h1, h2, h3, h4⟩ := okRx_of g.2.1
    obtain ⟨hn, hx⟩ := okMx_of g.2.2.1
    exact ⟨1, .inl (k63b _ _ _ _ _ g.1 h2 h3 h1 h4 hn (pd_of g.2.2.2))⟩
  · cases h

theorem v74 : ∀ args blk r, s74 args blk = (true, r) → ∃ n, runF E (callOf L63) n 74 args blk = some r ∨ run E n 74 args blk = (true, r) := by
  intro args blk r h
  unfold s74 at h
  split at h
  · obtain ⟨g, rfl⟩ := guarded h
    simp only [Bool.and_eq_true] at g
    obtain ⟨g1, g2, g3, g4⟩ := g
    exact ⟨1, .inl (k74 _ _ _ g1 (okBl_of g2).1 (okBl_of g2).2 (pd_of g3) (pd_of g4))⟩
  · cases h

theorem v52 : ∀ args blk r, s52 args blk = (true, r) → ∃ n, runF E (callOf L74) n 52 args blk = some r ∨ run E n 52 args blk = (true, r) := by
  intro args blk r h
  unfold s52 at h
  split at h
  · obtain ⟨g, rfl⟩ := guarded h
    simp only [Bool.and_eq_true] at g
    obtain ⟨n, hn⟩ := k52 _ _ g.1 (okBl_of g.2).1 (okBl_of g.2).2
    exact ⟨n, .inl hn⟩
  · cases h

theorem v49 : ∀ args blk r, s49 args blk = (true, r) → ∃ n, runF E (callOf L52) n 49 args blk = some r ∨ run E n 49 args blk = (true, r) := by
  intro args blk r h
  unfold s49 at h
  split at h
  · obtain ⟨g, rfl⟩ := guarded h
    obtain ⟨n, hn⟩ := k49 _ (okBl_of g).2
    exact ⟨n, .inl hn⟩
  · cases h

theorem v12 : ∀ args blk r, s12 args blk = (true, r) → ∃ n, runF E (callOf L49) n 12 args blk = some r ∨ run E n 12 args blk = (true, r) := by
  intro args blk r h
  unfold s12 at h
  split at h
  · obtain ⟨g, rfl⟩ := guarded h
    exact ⟨1, .inl (k12 _)⟩
  · cases h

theorem v32 : ∀ args blk r, s32 args blk = (true, r) → ∃ n, runF E (callOf L12) n 32 args blk = some r ∨ run E n 32 args blk = (true, r) := by
  intro args blk r h
  unfold s32 at h
  split at h
  · obtain ⟨g, rfl⟩ := guarded h
    exact ⟨1, .inl (k32 _ _ ⟨_, _, _, _, _, _⟩ g)⟩
  · obtain ⟨g, rfl⟩ := guarded h
    exact ⟨1, .inl (e32_c1 0)⟩
  · cases h

theorem v38 : ∀ args blk r, s38 args blk = (true, r) → ∃ n, runF E (callOf L32) n 38 args blk = some r ∨ run E n 38 args blk = (true, r) := by
  intro args blk r h
  unfold s38 at h
  split at h
  · obtain ⟨g, rfl⟩ := guarded h
    exact ⟨1, .inl (k38 _ _ ⟨_, _, _, _, _, _⟩)⟩
  · cases h

theorem v44 : ∀ args blk r, s44 args blk = (true, r) → ∃ n, runF E (callOf L38) n 44 args blk = some r ∨ run E n 44 args blk = (true, r) := by
  intro args blk r h
  unfold s44 at h
  split at h
  · obtain ⟨g, rfl⟩ := guarded h
    exact ⟨1, .inl (k44 _ _ _ _ ⟨_, _, _, _, _, _⟩ g)⟩
  · cases h

theorem v35 : ∀ args blk r, s35 args blk = (true, r) → ∃ n, runF E (callOf L44) n 35 args blk = some r ∨ run E n 35 args blk = (true, r) := by
  intro args blk r h
  unfold s35 at h
  split at h
  · obtain ⟨g, rfl⟩ := guarded h
    exact ⟨1, .inl (k35 _ _ _ _ ⟨_, _, _, _, _, _⟩ g)⟩
  · cases h

theorem v36 : ∀ args blk r, s36 args blk = (true, r) → ∃ n, runF E (callOf L35) n 36 args blk = some r ∨ run E n 36 args blk = (true, r) := by
  intro args blk r h
  unfold s36 at h
  split at h
  · obtain ⟨g, rfl⟩ := guarded h
    simp only [Bool.and_eq_true] at g
    obtain ⟨h1, h2⟩ := okWx_of g.2
    obtain ⟨n, hn⟩ := k36 _ _ _ _ ⟨_, _, _, _, _, _⟩ g.1 h1 h2
    exact ⟨n, .inl hn⟩
  · cases h

theorem v20 : ∀ args blk r, s20 args blk = (true, r) → ∃ n, runF E (callOf L36) n 20 args blk = some r ∨ run E n 20 args blk = (true, r) := by
  intro args blk r h
  unfold s20 at h
  split at h
  · obtain ⟨g, rfl⟩ := guarded h
    obtain ⟨n, hn⟩ := k20 _ _ ⟨_, _, _, _, _, _⟩ g
    exact ⟨n, .inl hn⟩
  · cases h

theorem v39 : ∀ args blk r, s39 args blk = (true, r) → ∃ n, runF E (callOf L20) n 39 args blk = some r ∨ run E n 39 args blk = (true, r) := by
  intro args blk r h
  unfold s39 at h
  split at h
  · obtain ⟨g, rfl⟩ := guarded h
    exact ⟨1, .inl (k39 _ _ _ ⟨_, _, _, _, _, _⟩)⟩
  · cases h

theorem v40 : ∀ args blk r, s40 args blk = (true, r) → ∃ n, runF E (callOf L39) n 40 args blk = some r ∨ run E n 40 args blk = (true, r) := by
  intro args blk r h
  unfold s40 at h
  split at h
  · obtain ⟨g, rfl⟩ := guarded h
    obtain ⟨n, hn⟩ := k40 _ _ _ _ ⟨_, _, _, _, _, _⟩ g
    exact ⟨n, .inl hn⟩
  · cases h

theorem v24 : ∀ args blk r, s24 args blk = (true, r) → ∃ n, runF E (callOf L40) n 24 args blk = some r ∨ run E n 24 args blk = (true, r) := by
  intro args blk r h
  unfold s24 at h
  split at h
  · obtain ⟨g, rfl⟩ := guarded h
    exact ⟨1, .inl (k24 _ _ ⟨_, _, _, _, _, _⟩ g)⟩
  · cases h

theorem v70 : ∀ args blk r, s70 args blk = (true, r) → ∃ n, runF E (callOf L24) n 70 args blk = some r ∨ run E n 70 args blk = (true, r) := by
  intro args blk r h
  unfold s70 at h
  split at h
  · obtain ⟨g, rfl⟩ := guarded h
    exact ⟨1, .inl (k70 _ _ ⟨_, _, _, _, _, _⟩ g)⟩
  · cases h

theorem v45 : ∀ args blk r, s45 args blk = (true, r) → ∃ n, runF E (callOf L70) n 45 args blk = some r ∨ run E n 45 args blk = (true, r) := by
  intro args blk r h
  unfold s45 at h
  split at h
  · obtain ⟨g, rfl⟩ := guarded h
    simp only [Bool.and_eq_true] at g
    exact ⟨1, .inl (k45 _ _ _ ⟨_, _, _, _, _, _⟩ ⟨_, _, _, _, _⟩ g.1 g.2)⟩
  · cases h

theorem v47 : ∀ args blk r, s47 args blk = (true, r) → ∃ n, runF E (callOf L45) n 47 args blk = some r ∨ run E n 47 args blk = (true, r) := by
  intro args blk r h
  unfold s47 at h
  split at h
  · obtain ⟨g, rfl⟩ := guarded h
    simp only [Bool.and_eq_true] at g
    exact ⟨1, .inl (k47 _ _ _ ⟨_, _, _, _, _, _⟩ ⟨_, _, _, _, _⟩ g.1 g.2)⟩
  · cases h

theorem v48 : ∀ args blk r, s48 args blk = (true, r) → ∃ n, runF E (callOf L47) n 48 args blk = some r ∨ run E n 48 args blk = (true, r) := by
  intro args blk r h
  unfold s48 at h
  split at h
  · obtain ⟨g, rfl⟩ := guarded h
    exact ⟨1, .inl (k48 _ _ ⟨_, _, _, _, _, _⟩ ⟨_, _, _, _, _⟩ g)⟩
  · cases h

theorem v50 : ∀ args blk r, s50 args blk = (true, r) → ∃ n, runF E (callOf L48) n 50 args blk = some r ∨ run E n 50 args blk = (true, r) := by
  intro args blk r h
  unfold s50 at h
  split at h
  · obtain ⟨g, rfl⟩ := guarded h
    simp only [Bool.and_eq_true] at g
    exact ⟨1, .inl (k50 _ _ _ _ ⟨_, _, _, _, _, _⟩ ⟨_, _, _, _, _⟩ g.1 g.2)⟩
  · cases h

theorem v22 : ∀ args blk r, s22 args blk = (true, r) → ∃ n, runF E (callOf L50) n 22 args blk = some r ∨ run E n 22 args blk = (true, r) := by
  intro args blk r h
  unfold s22 at h
  split at h
  · obtain ⟨g, rfl⟩ := guarded h
    simp only [Bool.and_eq_true] at g
    exact ⟨1, .inl (k22 _ _ ⟨_, _, _, _, _, _⟩ g.1 (pd_of g.2.1) (eq_of_beq g.2.2))⟩
  · cases h

theorem v59 : ∀ args blk r, s59 args blk = (true, r) → ∃ n, runF E (callOf L22) n 59 args blk = some r ∨ run E n 59 args blk = (true, r) := by
  intro args blk r h
  unfold s59 at h
  split at h
  · obtain ⟨g, rfl⟩ := guarded h
    obtain ⟨n, hn⟩ := k59 _ g
    exact ⟨n, .inl hn⟩
  · cases h

theorem v28 : ∀ args blk r, s28 args blk = (true, r) → ∃ n, runF E (callOf L59) n 28 args blk = some r ∨ run E n 28 args blk = (true, r) := by
  intro args blk r h
  unfold s28 at h
  split at h
  · obtain ⟨g, rfl⟩ := guarded h
    exact ⟨1, .inl (k28 _ _ ⟨_, _, _, _, _, _⟩ ⟨_, _, _, _, _⟩ g)⟩
  · obtain ⟨g, rfl⟩ := guarded h
    exact ⟨1, .inl (e28_c1 0)⟩
  · cases h

theorem v29 : ∀ args blk r, s29 args blk = (true, r) → ∃ n, runF E (callOf L28) n 29 args blk = some r ∨ run E n 29 args blk = (true, r) := by
  intro args blk r h
  unfold s29 at h
  split at h
  · obtain ⟨g, rfl⟩ := guarded h
    exact ⟨1, .inl (k29 _ _ ⟨_, _, _, _, _, _⟩ ⟨_, _, _, _, _⟩)⟩
  · obtain ⟨g, rfl⟩ := guarded h
    exact ⟨1, .inl (e29_c1 0)⟩
  · cases h

theorem v30 : ∀ args blk r, s30 args blk = (true, r) → ∃ n, runF E (callOf L29) n 30 args blk = some r ∨ run E n 30 args blk = (true, r) := by
  intro args blk r h
  unfold s30 at h
  split at h
  · obtain ⟨g, rfl⟩ := guarded h
    simp only [Bool.and_eq_true] at g
    exact ⟨1, .inl (k30 _ _ ⟨_, _, _, _, _, _⟩ ⟨_, _, _, _, _⟩ g.1 g.2)⟩
  · obtain ⟨g, rfl⟩ := guarded h
    exact ⟨1, .inl (e30_c1 0)⟩
  · cases h

theorem v61 : ∀ args blk r, s61 args blk = (true, r) → ∃ n, runF E (callOf L30) n 61 args blk = some r ∨ run E n 61 args blk = (true, r) := by
  intro args blk r h
  unfold s61 at h
  split at h
  · obtain ⟨g, rfl⟩ := guarded h
    exact ⟨1, .inl (k61 _ _ ⟨_, _, _, _, _, _⟩ ⟨_, _, _, _, _⟩)⟩
  · obtain ⟨g, rfl⟩ := guarded h
    exact ⟨1, .inl (e61_c1 0)⟩
  · cases h

theorem v62 : ∀ args blk r, s62 args blk = (true, r) → ∃ n, runF E (callOf L61) n 62 args blk = some r ∨ run E n 62 args blk = (true, r) := by
  intro args blk r h
  unfold s62 at h
  split at h
  · obtain ⟨g, rfl⟩ := guarded h
    exact ⟨1, .inl (k62 _)⟩
  · cases h

theorem v33 : ∀ args blk r, s33 args blk = (true, r) → ∃ n, runF E (callOf L62) n 33 args blk = some r ∨ run E n 33 args blk = (true, r) := by
  intro args blk r h
  unfold s33 at h
  split at h
  · obtain ⟨g, rfl⟩ := guarded h
    simp only [Bool.and_eq_true] at g
    exact ⟨1, .inl (k33w _ _ _ ⟨_, _, _, _, _, _⟩ ⟨_, _, _, _, _⟩ g.1.1 g.1.2 g.2)⟩
  · obtain ⟨g, rfl⟩ := guarded h
    exact ⟨1, .inl (e33_c1 0 _)⟩
  · obtain ⟨g, rfl⟩ := guarded h
    simp only [Bool.and_eq_true] at g
    exact ⟨1, .inl (k33_2 _ _ ⟨_, _, _, _, _, _⟩ ⟨_, _, _, _, _⟩ g.1.1 g.1.2 g.2)⟩
  · cases h

theorem v34 : ∀ args blk r, s34 args blk = (true, r) → ∃ n, runF E (callOf L33) n 34 args blk = some r ∨ run E n 34 args blk = (true, r) := by
  intro args blk r h
  unfold s34 at h
  split at h
  · obtain ⟨g, rfl⟩ := guarded h
    simp only [Bool.and_eq_true] at g
    obtain ⟨n, hn⟩ := k34 _ _ _ ⟨_, _, _, _, _, _⟩ ⟨_, _, _, _, _⟩ g.1.1 g.1.2 g.2
    exact ⟨n, .inl hn⟩
  · obtain ⟨g, rfl⟩ := guarded h
    exact ⟨1, .inl (e34_c1 0)⟩
  · obtain ⟨g, rfl⟩ := guarded h
    simp only [Bool.and_eq_true] at g
    obtain ⟨n, hn⟩ := k34_2 _ _ ⟨_, _, _, _, _, _⟩ ⟨_, _, _, _, _⟩ g.1.1 g.1.2 g.2
    exact ⟨n, .inl hn⟩
  · cases h

theorem v15 : ∀ args blk r, s15 args blk = (true, r) → ∃ n, runF E (callOf L34) n 15 args blk = some r ∨ run E n 15 args blk = (true, r) := by
  intro args blk r h
  unfold s15 at h
  split at h
  · obtain ⟨g, rfl⟩ := guarded h
    simp only [Bool.and_eq_true] at g
    exact ⟨1, .inl (k15 _ _ (pd_of g.1) (pd_of g.2))⟩
  · cases h

theorem v27 : ∀ args blk r, s27 args blk = (true, r) → ∃ n, runF E (callOf L15) n 27 args blk = some r ∨ run E n 27 args blk = (true, r) := by
  intro args blk r h
  unfold s27 at h
  split at h
  · obtain ⟨g, rfl⟩ := guarded h
    obtain ⟨n, hn⟩ := k27 _ _ (pd_of g)
    exact ⟨n, .inl hn⟩
  · cases h

theorem v18 : ∀ args blk r, s18 args blk = (true, r) → ∃ n, runF E (callOf L27) n 18 args blk = some r ∨ run E n 18 args blk = (true, r) := by
  intro args blk r h
  unfold s18 at h
  split at h
  · obtain ⟨g, rfl⟩ := guarded h
    simp only [Bool.and_eq_true] at g
    obtain ⟨n, hn⟩ := k18 _ _ (pd_of g.1) (pd_of g.2)
    exact ⟨n, .inl hn⟩
  · cases h

theorem v26 : ∀ args blk r, s26 args blk = (true, r) → ∃ n, runF E (callOf L18) n 26 args blk = some r ∨ run E n 26 args blk = (true, r) := by
  intro args blk r h
  unfold s26 at h
  split at h
  · obtain ⟨g, rfl⟩ := guarded h
    exact ⟨1, .inl k26⟩
  · cases h

theorem v42 : ∀ args blk r, s42 args blk = (true, r) → ∃ n, runF E (callOf L26) n 42 args blk = some r ∨ run E n 42 args blk = (true, r) := by
  intro args blk r h
  unfold s42 at h
  split at h
  · obtain ⟨g, rfl⟩ := guarded h
    simp only [Bool.and_eq_true] at g
    obtain ⟨n, hn⟩ := k42 _ _ g.1 g.2
    exact ⟨n, .inl hn⟩
  · cases h

theorem v75 : ∀ args blk r, s75 args blk = (true, r) → ∃ n, runF E (callOf L42) n 75 args blk = some r ∨ run E n 75 args blk = (true, r) := by
  intro args blk r h
  unfold s75 at h
  split at h
  · obtain ⟨g, rfl⟩ := guarded h
    simp only [Bool.and_eq_true] at g
    obtain ⟨n, hn⟩ := k75 _ g.1 (pd_of g.2)
    exact ⟨n, .inl hn⟩
  · cases h

theorem v43 : ∀ args blk r, s43 args blk = (true, r) → ∃ n, runF E (callOf L75) n 43 args blk = some r ∨ run E n 43 args blk = (true, r) := by
  intro args blk r h
  unfold s43 at h
  split at h
  · obtain ⟨g, rfl⟩ := guarded h
    obtain ⟨n, hn⟩ := k43 _ (okBl_of g).2
    exact ⟨n, .inl hn⟩
  · obtain ⟨g, rfl⟩ := guarded h
    simp only [Bool.and_eq_true] at g
    obtain ⟨n, hn⟩ := k43b _ _ (okBl_of g.1).2 (Nat.eq_of_beq_eq_true g.2)
    exact ⟨n, .inl hn⟩
  · cases h

theorem v17 : ∀ args blk r, s17 args blk = (true, r) → ∃ n, runF E (callOf L43) n 17 args blk = some r ∨ run E n 17 args blk = (true, r) := by
  intro args blk r h
  unfold s17 at h
  split at h
  · obtain ⟨g, rfl⟩ := guarded h
    exact ⟨1, .inl (k17 _ g)⟩
  · cases h

theorem v19 : ∀ args blk r, s19 args blk = (true, r) → ∃ n, runF E (callOf L17) n 19 args blk = some r ∨ run E n 19 args blk = (true, r) := by
  intro args blk r h
  unfold s19 at h
  split at h
  · obtain ⟨g, rfl⟩ := guarded h
    simp only [Bool.and_eq_true] at g
    obtain ⟨h1, h2, h3, h4⟩ := okRx_of g.2
    exact ⟨1, .inl (k19 _ _ _ g.1 h2 h3 h1 h4)⟩
  · cases h

theorem v76 : ∀ args blk r, s76 args blk = (true, r) → ∃ n, runF E (callOf L19) n 76 args blk = some r ∨ run E n 76 args blk = (true, r) := by
  intro args blk r h
  unfold s76 at h
  split at h
  · obtain ⟨g, rfl⟩ := guarded h
    exact ⟨1, .inl (k76 _ _)⟩
  · cases h

theorem v57 : ∀ args blk r, s57 args blk = (true, r) → ∃ n, runF E (callOf L76) n 57 args blk = some r ∨ run E n 57 args blk = (true, r) := by
  intro args blk r h
  unfold s57 at h
  split at h
  · obtain ⟨g, rfl⟩ := guarded h
    simp only [Bool.and_eq_true] at g
    obtain ⟨n, hn⟩ := k57 _ _ g.1 (okBl_of g.2).1 (okBl_of g.2).2
    exact ⟨n, .inl hn⟩
  · cases h

theorem v54 : ∀ args blk r, s54 args blk = (true, r) → ∃ n, runF E (callOf L57) n 54 args blk = some r ∨ run E n 54 args blk = (true, r) := by
  intro args blk r h
  unfold s54 at h
  split at h
  · obtain ⟨g, rfl⟩ := guarded h
    obtain ⟨n, hn⟩ := k54 _ (okBl_of g).2
    exact ⟨n, .inl hn⟩
  · cases h

theorem v13 : ∀ args blk r, s13 args blk = (true, r) → ∃ n, runF E (callOf L54) n 13 args blk = some r ∨ run E n 13 args blk = (true, r) := by
  intro args blk r h
  unfold s13 at h
  split at h
  · obtain ⟨g, rfl⟩ := guarded h
    exact ⟨1, .inl (k13 _)⟩
  · cases h

theorem v14 : ∀ args blk r, s14 args blk = (true, r) → ∃ n, runF E (callOf L13) n 14 args blk = some r ∨ run E n 14 args blk = (true, r) := by
  intro args blk r h
  unfold s14 at h
  split at h
  · obtain ⟨g, rfl⟩ := guarded h
    exact ⟨1, .inl (k14 _ _ _ _ _ g)⟩
  · cases h

theorem v69 : ∀ args blk r, s69 args blk = (true, r) → ∃ n, runF E (callOf L14) n 69 args blk = some r ∨ run E n 69 args blk = (true, r) := by
  intro args blk r h
  unfold s69 at h
  split at h
  · obtain ⟨g, rfl⟩ := guarded h
    exact ⟨1, .inl (k69 _ _ _ _ _ _ _ g)⟩
  · cases h

theorem v25 : ∀ args blk r, s25 args blk = (true, r) → ∃ n, runF E (callOf L69) n 25 args blk = some r ∨ run E n 25 args blk = (true, r) := by
  intro args blk r h
  unfold s25 at h
  split at h
  · obtain ⟨g, rfl⟩ := guarded h
    obtain ⟨n, hn⟩ := k25 _ _ _ _ _ g
    exact ⟨n, .inl hn⟩
  · cases h

theorem v41 : ∀ args blk r, s41 args blk = (true, r) → ∃ n, runF E (callOf L25) n 41 args blk = some r ∨ run E n 41 args blk = (true, r) := by
  intro args blk r h
  unfold s41 at h
  split at h
  · obtain ⟨g, rfl⟩ := guarded h
    simp only [Bool.and_eq_true] at g
    obtain ⟨n, hn⟩ := k41 _ _ _ _ _ _ _ g.1 g.2
    exact ⟨n, .inl hn⟩
  · cases h

theorem v21 : ∀ args blk r, s21 args blk = (true, r) → ∃ n, runF E (callOf L41) n 21 args blk = some r ∨ run E n 21 args blk = (true, r) := by
  intro args blk r h
  unfold s21 at h
  split at h
  · obtain ⟨g, rfl⟩ := guarded h
    exact ⟨1, .inl (k21 _ _ _ _ _ g)⟩
  · cases h

theorem v58 : ∀ args blk r, s58 args blk = (true, r) → ∃ n, runF E (callOf L21) n 58 args blk = some r ∨ run E n 58 args blk = (true, r) := by
  intro args blk r h
  unfold s58 at h
  split at h
  · obtain ⟨g, rfl⟩ := guarded h
    exact ⟨1, .inl (k58 _ _ _ _ _ g)⟩
  · cases h

theorem v53 : ∀ args blk r, s53 args blk = (true, r) → ∃ n, runF E (callOf L58) n 53 args blk = some r ∨ run E n 53 args blk = (true, r) := by
  intro args blk r h
  unfold s53 at h
  split at h
  · obtain ⟨g, rfl⟩ := guarded h
    simp only [Bool.and_eq_true] at g
    exact ⟨1, .inl (k53 _ _ _ _ _ _ g.1 g.2.1 (pd_of g.2.2))⟩
  · cases h

theorem v55 : ∀ args blk r, s55 args blk = (true, r) → ∃ n, runF E (callOf L53) n 55 args blk = some r ∨ run E n 55 args blk = (true, r) := by
  intro args blk r h
  unfold s55 at h
  split at h
  · obtain ⟨g, rfl⟩ := guarded h
    simp only [Bool.and_eq_true] at g
    exact ⟨1, .inl (k55 _ _ _ _ _ _ g.1 g.2.1 (pd_of g.2.2))⟩
  · cases h

theorem v56 : ∀ args blk r, s56 args blk = (true, r) → ∃ n, runF E (callOf L55) n 56 args blk = some r ∨ run E n 56 args blk = (true, r) := by
  intro args blk r h
  unfold s56 at h
  split at h
  · obtain ⟨g, rfl⟩ := guarded h
    simp only [Bool.and_eq_true] at g
    exact ⟨1, .inl (k56 _ _ _ _ _ _ _ g.1 g.2)⟩
  · cases h

theorem v23 : ∀ args blk r, s23 args blk = (true, r) → ∃ n, runF E (callOf L56) n 23 args blk = some r ∨ run E n 23 args blk = (true, r) := by
  intro args blk r h
  unfold s23 at h
  split at h
  · obtain ⟨g, rfl⟩ := guarded h
    simp at g
  · cases h

theorem v60 : ∀ args blk r, s60 args blk = (true, r) → ∃ n, runF E (callOf L23) n 60 args blk = some r ∨ run E n 60 args blk = (true, r) := by
  intro args blk r h
  unfold s60 at h
  split at h
  · obtain ⟨g, rfl⟩ := guarded h
    exact ⟨1, .inl (k60 _ _ _ _ _ ⟨_, _, _, _, _⟩ g)⟩
  · cases h

theorem v31 : ∀ args blk r, s31 args blk = (true, r) → ∃ n, runF E (callOf L60) n 31 args blk = some r ∨ run E n 31 args blk = (true, r) := by
  intro args blk r h
  unfold s31 at h
  split at h
  · obtain ⟨g, rfl⟩ := guarded h
    simp only [Bool.and_eq_true] at g
    exact ⟨1, .inl (k31 _ _ _ _ _ ⟨_, _, _, _, _⟩ g.1 g.2)⟩
  · cases h

theorem v16 : ∀ args blk r, s16 args blk = (true, r) → ∃ n, runF E (callOf L31) n 16 args blk = some r ∨ run E n 16 args blk = (true, r) := by
  intro args blk r h
  unfold s16 at h
  split at h
  · obtain ⟨g, rfl⟩ := guarded h
    simp only [Bool.and_eq_true] at g
    exact ⟨1, .inl (k16 _ _ _ _ ⟨_, _, _, _, _, _⟩ _ _ _ _ _ g.1 g.2.1 g.2.2.1 g.2.2.2.1 (pd_of g.2.2.2.2.1) (pd_of g.2.2.2.2.2))⟩
  · cases h

theorem v22b : ∀ args blk r, s22b args blk = (true, r) → ∃ n, runF E (callOf L16) n 22 args blk = some r ∨ run E n 22 args blk = (true, r) := by
  intro args blk r h
  unfold s22b at h
  split at h
  · obtain ⟨g, rfl⟩ := guarded h
    simp only [Bool.and_eq_true] at g
    exact ⟨1, .inl (k22z _ _ ⟨_, _, _, _, _, _⟩ g.1 (pd_of g.2))⟩
  · cases h

theorem v23b : ∀ args blk r, s23b args blk = (true, r) → ∃ n, runF E (callOf L22b) n 23 args blk = some r ∨ run E n 23 args blk = (true, r) := by
  intro args blk r h
  unfold s23b at h
  split at h
  · obtain ⟨g, rfl⟩ := guarded h
    simp only [Bool.and_eq_true] at g
    exact ⟨1, .inl (k23z _ _ _ _ _ g.1 (pd_of g.2))⟩
  · cases h

theorem v3 : ∀ args blk r, s3 args blk = (true, r) → ∃ n, runF E (callOf L23b) n 3 args blk = some r ∨ run E n 3 args blk = (true, r) := by
  intro args blk r h
  unfold s3 at h
  split at h
  · obtain ⟨g, rfl⟩ := guarded h
    simp only [Bool.and_eq_true] at g
    obtain ⟨n, hn⟩ := k3 _ _ _ _ _ _ _ g.1 g.2.1 g.2.2
    exact ⟨n, .inl hn⟩
  · cases h

theorem valid : Valid E L := trivial

theorem valid11 : Valid E L11 := ⟨v11, valid⟩

theorem valid72 : Valid E L72 := ⟨v72, valid11⟩

theorem valid73 : Valid E L73 := ⟨v73, valid72⟩

theorem valid71 : Valid E L71 := ⟨v71, valid73⟩

theorem valid51 : Valid E L51 := ⟨v51, valid71⟩

theorem valid46 : Valid E L46 := ⟨v46, valid51⟩

theorem valid77 : Valid E L77 := ⟨v77, valid46⟩

theorem valid63 : Valid E L63 := ⟨v63, valid77⟩

theorem valid74 : Valid E L74 := ⟨v74, valid63⟩

theorem valid52 : Valid E L52 := ⟨v52, valid74⟩

theorem valid49 : Valid E L49 := ⟨v49, valid52⟩

theorem valid12 : Valid E L12 := ⟨v12, valid49⟩

theorem valid32 : Valid E L32 := ⟨v32, valid12⟩

theorem valid38 : Valid E L38 := ⟨v38, valid32⟩

theorem valid44 : Valid E L44 := ⟨v44, valid38⟩

theorem valid35 : Valid E L35 := ⟨v35, valid44⟩

theorem valid36 : Valid E L36 := ⟨v36, valid35⟩

theorem valid20 : Valid E L20 := ⟨v20, valid36⟩

theorem valid39 : Valid E L39 := ⟨v39, valid20⟩

theorem valid40 : Valid E L40 := ⟨v40, valid39⟩

theorem valid24 : Valid E L24 := ⟨v24, valid40⟩

theorem valid70 : Valid E L70 := ⟨v70, valid24⟩

theorem valid45 : Valid E L45 := ⟨v45, valid70⟩

theorem valid47 : Valid E L47 := ⟨v47, valid45⟩

theorem valid48 : Valid E L48 := ⟨v48, valid47⟩

theorem valid50 : Valid E L50 := ⟨v50, valid48⟩

theorem valid22 : Valid E L22 := ⟨v22, valid50⟩

theorem valid59 : Valid E L59 := ⟨v59, valid22⟩

theorem valid28 : Valid E L28 := ⟨v28, valid59⟩

theorem valid29 : Valid E L29 := ⟨v29, valid28⟩

theorem valid30 : Valid E L30 := ⟨v30, valid29⟩

theorem valid61 : Valid E L61 := ⟨v61, valid30⟩

theorem valid62 : Valid E L62 := ⟨v62, valid61⟩

theorem valid33 : Valid E L33 := ⟨v33, valid62⟩

theorem valid34 : Valid E L34 := ⟨v34, valid33⟩

theorem valid15 : Valid E L15 := ⟨v15, valid34⟩

theorem valid27 : Valid E L27 := ⟨v27, valid15⟩

theorem valid18 : Valid E L18 := ⟨v18, valid27⟩

theorem valid26 : Valid E L26 := ⟨v26, valid18⟩

theorem valid42 : Valid E L42 := ⟨v42, valid26⟩

theorem valid75 : Valid E L75 := ⟨v75, valid42⟩

theorem valid43 : Valid E L43 := ⟨v43, valid75⟩

theorem valid17 : Valid E L17 := ⟨v17, valid43⟩

theorem valid19 : Valid E L19 := ⟨v19, valid17⟩

theorem valid76 : Valid E L76 := ⟨v76, valid19⟩

theorem valid57 : Valid E L57 := ⟨v57, valid76⟩

theorem valid54 : Valid E L54 := ⟨v54, valid57⟩

theorem valid13 : Valid E L13 := ⟨v13, valid54⟩

theorem valid14 : Valid E L14 := ⟨v14, valid13⟩

theorem valid69 : Valid E L69 := ⟨v69, valid14⟩

theorem valid25 : Valid E L25 := ⟨v25, valid69⟩

theorem valid41 : Valid E L41 := ⟨v41, valid25⟩

theorem valid21 : Valid E L21 := ⟨v21, valid41⟩

theorem valid58 : Valid E L58 := ⟨v58, valid21⟩

theorem valid53 : Valid E L53 := ⟨v53, valid58⟩

theorem valid55 : Valid E L55 := ⟨v55, valid53⟩

theorem valid56 : Valid E L56 := ⟨v56, valid55⟩

theorem valid23 : Valid E L23 := ⟨v23, valid56⟩

theorem valid60 : Valid E L60 := ⟨v60, valid23⟩

theorem valid31 : Valid E L31 := ⟨v31, valid60⟩

theorem valid16 : Valid E L16 := ⟨v16, valid31⟩

theorem valid22b : Valid E L22b := ⟨v22b, valid16⟩

theorem valid23b : Valid E L23b := ⟨v23b, valid22b⟩

theorem valid3 : Valid E L3 := ⟨v3, valid23b⟩

theorem okB_wf {x : List (List Cell)} (h : Cell.Wf E (.slice 5 x)) : okB x = true := by
  obtain ⟨h1, _, h3⟩ := wf_slice (ks := [.int .u8]) h (by kernel_rfl)
  refine List.all_eq_true.2 fun r hr => ?_
  obtain ⟨c, r', rfl, hc, hr'⟩ := row_cons (h1 r hr)
  obtain ⟨n, rfl⟩ := kind_int hc
  obtain rfl := row_nil hr'
  have := wf_u8 (h3 _ hr _ List.mem_cons_self)
  simp only [isByte, Bool.and_eq_true, decide_eq_true_eq]
  omega

theorem arg_wf {c : List (List Cell)} (h : Cell.Wf E (.slice 22 c)) : okArg c = true := by
  obtain ⟨h1, h2, h3⟩ := wf_slice (ks := [.slice 5]) h (by kernel_rfl)
  have key : ∀ r ∈ c, okB (nl r 0) = true := fun r hr => by
    obtain ⟨c0, r0, rfl, e0, q0⟩ := row_cons (h1 r hr)
    obtain ⟨l, rfl⟩ := kind_slice e0
    exact okB_wf (h3 _ hr (.slice 5 l) (by simp))
  unfold okArg
  rw [List.all_eq_true.2 key]
  exact and_mk (pd_t (by unfold maxLen at h2; omega)) rfl

end Go.Proofs.Ytpafnokcmhlbgaa

namespace Go.Proofs.Ytpafnokcmhlbgaa

open Go.Abs

set_option maxRecDepth 20000

theorem c11 : CodeOk Try.prog 11 F11 := ⟨⟨Try.f11, Try.func11, of_decide_eq_true (by kernel_rfl), by kernel_rfl, by kernel_rfl, by kernel_rfl, by kernel_rfl⟩⟩

theorem c72 : CodeOk Try.prog 72 F72 := ⟨⟨Try.f72, Try.func72, of_decide_eq_true (by kernel_rfl), by kernel_rfl, by kernel_rfl, by kernel_rfl, by kernel_rfl⟩⟩

theorem c73 : CodeOk Try.prog 73 F73 := ⟨⟨Try.f73, Try.func73, of_decide_eq_true (by kernel_rfl), by kernel_rfl, by kernel_rfl, by kernel_rfl, by kernel_rfl⟩⟩

theorem c71 : CodeOk Try.prog 71 F71 := ⟨⟨Try.f71, Try.func71, of_decide_eq_true (by kernel_rfl), by kernel_rfl, by kernel_rfl, by kernel_rfl, by kernel_rfl⟩⟩

theorem c51 : CodeOk Try.prog 51 F51 := ⟨⟨Try.f51, Try.func51, of_decide_eq_true (by kernel_rfl), by kernel_rfl, by kernel_rfl, by kernel_rfl, by kernel_rfl⟩⟩

theorem c46 : CodeOk Try.prog 46 F46 := ⟨⟨Try.f46, Try.func46, of_decide_eq_true (by kernel_rfl), by kernel_rfl, by kernel_rfl, by kernel_rfl, by kernel_rfl⟩⟩

theorem c77 : CodeOk Try.prog 77 F77 := ⟨⟨Try.f77, Try.func77, of_decide_eq_true (by kernel_rfl), by kernel_rfl, by kernel_rfl, by kernel_rfl, by kernel_rfl⟩⟩

theorem c63 : CodeOk Try.prog 63 F63 := ⟨⟨Try.f63, Try.func63, of_decide_eq_true (by kernel_rfl), by kernel_rfl, by kernel_rfl, by kernel_rfl, by kernel_rfl⟩⟩

theorem c74 : CodeOk Try.prog 74 F74 := ⟨⟨Try.f74, Try.func74, of_decide_eq_true (by kernel_rfl), by kernel_rfl, by kernel_rfl, by kernel_rfl, by kernel_rfl⟩⟩

theorem c52 : CodeOk Try.prog 52 F52 := ⟨⟨Try.f52, Try.func52, of_decide_eq_true (by kernel_rfl), by kernel_rfl, by kernel_rfl, by kernel_rfl, by kernel_rfl⟩⟩

theorem c49 : CodeOk Try.prog 49 F49 := ⟨⟨Try.f49, Try.func49, of_decide_eq_true (by kernel_rfl), by kernel_rfl, by kernel_rfl, by kernel_rfl, by kernel_rfl⟩⟩

theorem c12 : CodeOk Try.prog 12 F12 := ⟨⟨Try.f12, Try.func12, of_decide_eq_true (by kernel_rfl), by kernel_rfl, by kernel_rfl, by kernel_rfl, by kernel_rfl⟩⟩

theorem c32 : CodeOk Try.prog 32 F32 := ⟨⟨Try.f32, Try.func32, of_decide_eq_true (by kernel_rfl), by kernel_rfl, by kernel_rfl, by kernel_rfl, by kernel_rfl⟩⟩

theorem c38 : CodeOk Try.prog 38 F38 := ⟨⟨Try.f38, Try.func38, of_decide_eq_true (by kernel_rfl), by kernel_rfl, by kernel_rfl, by kernel_rfl, by kernel_rfl⟩⟩

theorem c44 : CodeOk Try.prog 44 F44 := ⟨⟨Try.f44, Try.func44, of_decide_eq_true (by kernel_rfl), by kernel_rfl, by kernel_rfl, by kernel_rfl, by kernel_rfl⟩⟩

theorem c35 : CodeOk Try.prog 35 F35 := ⟨⟨Try.f35, Try.func35, of_decide_eq_true (by kernel_rfl), by kernel_rfl, by kernel_rfl, by kernel_rfl, by kernel_rfl⟩⟩

theorem c36 : CodeOk Try.prog 36 F36 := ⟨⟨Try.f36, Try.func36, of_decide_eq_true (by kernel_rfl), by kernel_rfl, by kernel_rfl, by kernel_rfl, by kernel_rfl⟩⟩

theorem c20 : CodeOk Try.prog 20 F20 := ⟨⟨Try.f20, Try.func20, of_decide_eq_true (by kernel_rfl), by kernel_rfl, by kernel_rfl, by kernel_rfl, by kernel_rfl⟩⟩

theorem c39 : CodeOk Try.prog 39 F39 := ⟨⟨Try.f39, Try.func39, of_decide_eq_true (by kernel_rfl), by kernel_rfl, by kernel_rfl, by kernel_rfl, by kernel_rfl⟩⟩

theorem c40 : CodeOk Try.prog 40 F40 := ⟨⟨Try.f40, Try.func40, of_decide_eq_true (by kernel_rfl), by kernel_rfl, by kernel_rfl, by kernel_rfl, by kernel_rfl⟩⟩

theorem c24 : CodeOk Try.prog 24 F24 := ⟨⟨Try.f24, Try.func24, of_decide_eq_true (by kernel_rfl), by kernel_rfl, by kernel_rfl, by kernel_rfl, by kernel_rfl⟩⟩

theorem c70 : CodeOk Try.prog 70 F70 := ⟨⟨Try.f70, Try.func70, of_decide_eq_true (by kernel_rfl), by kernel_rfl, by kernel_rfl, by kernel_rfl, by kernel_rfl⟩⟩

theorem c45 : CodeOk Try.prog 45 F45 := ⟨⟨Try.f45, Try.func45, of_decide_eq_true (by kernel_rfl), by kernel_rfl, by kernel_rfl, by kernel_rfl, by kernel_rfl⟩⟩

theorem c47 : CodeOk Try.prog 47 F47 := ⟨⟨Try.f47, Try.func47, of_decide_eq_true (by kernel_rfl), by kernel_rfl, by kernel_rfl, by kernel_rfl, by kernel_rfl⟩⟩

theorem c48 : CodeOk Try.prog 48 F48 := ⟨⟨Try.f48, Try.func48, of_decide_eq_true (by kernel_rfl), by kernel_rfl, by kernel_rfl, by kernel_rfl, by kernel_rfl⟩⟩

theorem c50 : CodeOk Try.prog 50 F50 := ⟨⟨Try.f50, Try.func50, of_decide_eq_true (by kernel_rfl), by kernel_rfl, by kernel_rfl, by kernel_rfl, by kernel_rfl⟩⟩

theorem c22 : CodeOk Try.prog 22 F22 := ⟨⟨Try.f22, Try.func22, of_decide_eq_true (by kernel_rfl), by kernel_rfl, by kernel_rfl, by kernel_rfl, by kernel_rfl⟩⟩

theorem c59 : CodeOk Try.prog 59 F59 := ⟨⟨Try.f59, Try.func59, of_decide_eq_true (by kernel_rfl), by kernel_rfl, by kernel_rfl, by kernel_rfl, by kernel_rfl⟩⟩

theorem c28 : CodeOk Try.prog 28 F28 := ⟨⟨Try.f28, Try.func28, of_decide_eq_true (by kernel_rfl), by kernel_rfl, by kernel_rfl, by kernel_rfl, by kernel_rfl⟩⟩

theorem c29 : CodeOk Try.prog 29 F29 := ⟨⟨Try.f29, Try.func29, of_decide_eq_true (by kernel_rfl), by kernel_rfl, by kernel_rfl, by kernel_rfl, by kernel_rfl⟩⟩

theorem c30 : CodeOk Try.prog 30 F30 := ⟨⟨Try.f30, Try.func30, of_decide_eq_true (by kernel_rfl), by kernel_rfl, by kernel_rfl, by kernel_rfl, by kernel_rfl⟩⟩

theorem c61 : CodeOk Try.prog 61 F61 := ⟨⟨Try.f61, Try.func61, of_decide_eq_true (by kernel_rfl), by kernel_rfl, by kernel_rfl, by kernel_rfl, by kernel_rfl⟩⟩

theorem c62 : CodeOk Try.prog 62 F62 := ⟨⟨Try.f62, Try.func62, of_decide_eq_true (by kernel_rfl), by kernel_rfl, by kernel_rfl, by kernel_rfl, by kernel_rfl⟩⟩

theorem c33 : CodeOk Try.prog 33 F33 := ⟨⟨Try.f33, Try.func33, of_decide_eq_true (by kernel_rfl), by kernel_rfl, by kernel_rfl, by kernel_rfl, by kernel_rfl⟩⟩

theorem c34 : CodeOk Try.prog 34 F34 := ⟨⟨Try.f34, Try.func34, of_decide_eq_true (by kernel_rfl), by kernel_rfl, by kernel_rfl, by kernel_rfl, by kernel_rfl⟩⟩

theorem c15 : CodeOk Try.prog 15 F15 := ⟨⟨Try.f15, Try.func15, of_decide_eq_true (by kernel_rfl), by kernel_rfl, by kernel_rfl, by kernel_rfl, by kernel_rfl⟩⟩

theorem c27 : CodeOk Try.prog 27 F27 := ⟨⟨Try.f27, Try.func27, of_decide_eq_true (by kernel_rfl), by kernel_rfl, by kernel_rfl, by kernel_rfl, by kernel_rfl⟩⟩

theorem c18 : CodeOk Try.prog 18 F18 := ⟨⟨Try.f18, Try.func18, of_decide_eq_true (by kernel_rfl), by kernel_rfl, by kernel_rfl, by kernel_rfl, by kernel_rfl⟩⟩

theorem c26 : CodeOk Try.prog 26 F26 := ⟨⟨Try.f26, Try.func26, of_decide_eq_true (by kernel_rfl), by kernel_rfl, by kernel_rfl, by kernel_rfl, by kernel_rfl⟩⟩

theorem c42 : CodeOk Try.prog 42 F42 := ⟨⟨Try.f42, Try.func42, of_decide_eq_true (by kernel_rfl), by kernel_rfl, by kernel_rfl, by kernel_rfl, by kernel_rfl⟩⟩

theorem c75 : CodeOk Try.prog 75 F75 := ⟨⟨Try.f75, Try.func75, of_decide_eq_true (by kernel_rfl), by kernel_rfl, by kernel_rfl, by kernel_rfl, by kernel_rfl⟩⟩

theorem c43 : CodeOk Try.prog 43 F43 := ⟨⟨Try.f43, Try.func43, of_decide_eq_true (by kernel_rfl), by kernel_rfl, by kernel_rfl, by kernel_rfl, by kernel_rfl⟩⟩

theorem c17 : CodeOk Try.prog 17 F17 := ⟨⟨Try.f17, Try.func17, of_decide_eq_true (by kernel_rfl), by kernel_rfl, by kernel_rfl, by kernel_rfl, by kernel_rfl⟩⟩

theorem c19 : CodeOk Try.prog 19 F19 := ⟨⟨Try.f19, Try.func19, of_decide_eq_true (by kernel_rfl), by kernel_rfl, by kernel_rfl, by kernel_rfl, by kernel_rfl⟩⟩

theorem c76 : CodeOk Try.prog 76 F76 := ⟨⟨Try.f76, Try.func76, of_decide_eq_true (by kernel_rfl), by kernel_rfl, by kernel_rfl, by kernel_rfl, by kernel_rfl⟩⟩

theorem c57 : CodeOk Try.prog 57 F57 := ⟨⟨Try.f57, Try.func57, of_decide_eq_true (by kernel_rfl), by kernel_rfl, by kernel_rfl, by kernel_rfl, by kernel_rfl⟩⟩

theorem c54 : CodeOk Try.prog 54 F54 := ⟨⟨Try.f54, Try.func54, of_decide_eq_true (by kernel_rfl), by kernel_rfl, by kernel_rfl, by kernel_rfl, by kernel_rfl⟩⟩

theorem c13 : CodeOk Try.prog 13 F13 := ⟨⟨Try.f13, Try.func13, of_decide_eq_true (by kernel_rfl), by kernel_rfl, by kernel_rfl, by kernel_rfl, by kernel_rfl⟩⟩

theorem c14 : CodeOk Try.prog 14 F14 := ⟨⟨Try.f14, Try.func14, of_decide_eq_true (by kernel_rfl), by kernel_rfl, by kernel_rfl, by kernel_rfl, by kernel_rfl⟩⟩

theorem c69 : CodeOk Try.prog 69 F69 := ⟨⟨Try.f69, Try.func69, of_decide_eq_true (by kernel_rfl), by kernel_rfl, by kernel_rfl, by kernel_rfl, by kernel_rfl⟩⟩

theorem c25 : CodeOk Try.prog 25 F25 := ⟨⟨Try.f25, Try.func25, of_decide_eq_true (by kernel_rfl), by kernel_rfl, by kernel_rfl, by kernel_rfl, by kernel_rfl⟩⟩

theorem c41 : CodeOk Try.prog 41 F41 := ⟨⟨Try.f41, Try.func41, of_decide_eq_true (by kernel_rfl), by kernel_rfl, by kernel_rfl, by kernel_rfl, by kernel_rfl⟩⟩

theorem c21 : CodeOk Try.prog 21 F21 := ⟨⟨Try.f21, Try.func21, of_decide_eq_true (by kernel_rfl), by kernel_rfl, by kernel_rfl, by kernel_rfl, by kernel_rfl⟩⟩

theorem c58 : CodeOk Try.prog 58 F58 := ⟨⟨Try.f58, Try.func58, of_decide_eq_true (by kernel_rfl), by kernel_rfl, by kernel_rfl, by kernel_rfl, by kernel_rfl⟩⟩

theorem c53 : CodeOk Try.prog 53 F53 := ⟨⟨Try.f53, Try.func53, of_decide_eq_true (by kernel_rfl), by kernel_rfl, by kernel_rfl, by kernel_rfl, by kernel_rfl⟩⟩

theorem c55 : CodeOk Try.prog 55 F55 := ⟨⟨Try.f55, Try.func55, of_decide_eq_true (by kernel_rfl), by kernel_rfl, by kernel_rfl, by kernel_rfl, by kernel_rfl⟩⟩

theorem c56 : CodeOk Try.prog 56 F56 := ⟨⟨Try.f56, Try.func56, of_decide_eq_true (by kernel_rfl), by kernel_rfl, by kernel_rfl, by kernel_rfl, by kernel_rfl⟩⟩

theorem c23 : CodeOk Try.prog 23 F23 := ⟨⟨Try.f23, Try.func23, of_decide_eq_true (by kernel_rfl), by kernel_rfl, by kernel_rfl, by kernel_rfl, by kernel_rfl⟩⟩

theorem c60 : CodeOk Try.prog 60 F60 := ⟨⟨Try.f60, Try.func60, of_decide_eq_true (by kernel_rfl), by kernel_rfl, by kernel_rfl, by kernel_rfl, by kernel_rfl⟩⟩

theorem c31 : CodeOk Try.prog 31 F31 := ⟨⟨Try.f31, Try.func31, of_decide_eq_true (by kernel_rfl), by kernel_rfl, by kernel_rfl, by kernel_rfl, by kernel_rfl⟩⟩

theorem c16 : CodeOk Try.prog 16 F16 := ⟨⟨Try.f16, Try.func16, of_decide_eq_true (by kernel_rfl), by kernel_rfl, by kernel_rfl, by kernel_rfl, by kernel_rfl⟩⟩

theorem c3 : CodeOk Try.prog 3 F3 := ⟨⟨Try.f3, Try.func3, of_decide_eq_true (by kernel_rfl), by kernel_rfl, by kernel_rfl, by kernel_rfl, by kernel_rfl⟩⟩

theorem funcsOk : FuncsOk Try.prog E := by
  refine funcsOk_of (l := fnTab) rfl ?_
  unfold fnTab
  exact ⟨c3, c16, c31, c60, c23, c56, c55, c53, c58, c21, c41, c25, c69, c14, c13, c54, c57, c76, c19, c17, c43, c75, c42, c26, c18, c27, c15, c34, c33, c62, c61, c30, c29, c28, c59, c22, c50, c48, c47, c45, c70, c24, c40, c39, c20, c36, c35, c44, c38, c32, c12, c49, c52, c74, c63, c77, c46, c51, c71, c73, c72, c11, trivial⟩

theorem mixed : Try.prog.follows .mixedOrders = true := by kernel_rfl

theorem ownk : ownKnob Try.prog.godebug = none := by kernel_rfl

end Go.Proofs.Ytpafnokcmhlbgaa
