/-
  The law of a changed byte.
-/
import Derived.Test.YtpafnokcmhlbgaaW12
namespace Go.Proofs.Ytpafnokcmhlbgaa
open Go.Abs

/-- a disk whose record at some place was changed is opened -/
theorem turned {d : Dk} {l : Lg} {a : List (List Cell)} {j i : Nat} {v : Int} (hI : Inv d l) (hr : l.recs = a) (hj : j < a.length) (hi : i = 0 ∨ 5 ≤ i) (hil : i < (nl (Abs.rowAt a j) 0).length + 10) (hv : 0 ≤ v ∧ v < 256)
    (hn : v ≠ nr (Abs.rowAt (wEnc 1 (recsN (a.take j)) (nl (Abs.rowAt a j) 0)) i) 0) :
    ∃ d3, openM (onB d (overL d.dur (32 + (recsN (a.take j)).toNat + i) [[.int .u8 v]])) = ⟨d3, ⟨0, 1, cloneR (a.take j), recsN (a.take j), false⟩, 0⟩ ∧ Live d3 ⟨0, 1, cloneR (a.take j), recsN (a.take j), false⟩ ∧ d3.dur.length = d.dur.length := by
  subst hr
  have hG := hI.live.good
  have hh := half_of hG.ok
  have h64 := hI.live.lg.half
  have hfin := hI.live.lg.fin
  have hfn := hI.live.fin
  have hmem := rowAt_mem hj
  have hx := recsE_mem hI.live.recsE _ hmem
  have hxb := hI.live.recs _ hmem
  have hsp := split_at hj
  generalize hxe : nl (Abs.rowAt l.recs j) 0 = x at *
  generalize hoe : recsN (l.recs.take j) = o at *
  have hnt := recsN_nn (l.recs.take j)
  have hel := encW_len 1 (l.recs.take j) 0
  rw [hoe] at hnt hel
  have hwl := wEnc_len 1 o x
  -- the bytes
  have henc : encW 1 0 l.recs = encW 1 0 (l.recs.take j) ++ (wEnc 1 o x ++ encW 1 (o + x.length + 10) (l.recs.drop (j + 1))) := by
    conv => lhs; rw [hsp, encW_app, hoe]
    rw [encW, hxe, Int.zero_add]
  have hlr := encW_len 1 (l.recs.drop (j + 1)) (o + x.length + 10)
  have hsum : recsN l.recs = o + ((x.length : Int) + 10 + recsN (l.recs.drop (j + 1))) := by
    conv => lhs; rw [hsp, recsN_app, hoe, recsN, hxe]
  have hnd := recsN_nn (l.recs.drop (j + 1))
  generalize hE1 : encW 1 0 (l.recs.take j) = E1 at *
  generalize hE2 : encW 1 (o + x.length + 10) (l.recs.drop (j + 1)) = E2 at *
  generalize hY : wEnc 1 o x = Y at *
  generalize hY2 : overL Y i [[.int .u8 v]] = Y2
  have hcb : okB [[Cell.int .u8 v]] = true := by simp only [okB, List.all_cons, List.all_nil, isByte, Bool.and_true, Bool.and_eq_true, decide_eq_true_eq]; omega
  have hY2l : Y2.length = x.length + 10 := by rw [← hY2, overL_len (by simp; omega), hwl]
  have hdur : d.dur = (wHdr 1 ++ E1) ++ (Y ++ (E2 ++ Z (d.dur.length - 32 - l.fin.toNat))) := by
    conv => lhs; rw [hI.dur, henc]
    simp
  have hk : d.dur.length = 32 + E1.length + (x.length + 10) + E2.length + (d.dur.length - 32 - l.fin.toNat) := by
    have := congrArg List.length hdur
    simp only [List.length_append, wHdr_len, hwl, List.length_replicate] at this
    omega
  have hAl : (wHdr 1 ++ E1).length = 32 + o.toNat := by rw [List.length_append, wHdr_len]; omega
  have hov : overL d.dur (32 + o.toNat + i) [[.int .u8 v]] = (wHdr 1 ++ E1) ++ (Y2 ++ (E2 ++ Z (d.dur.length - 32 - l.fin.toNat))) := by
    conv => lhs; rw [hdur]
    rw [over_app_right (by omega), hAl, show 32 + o.toNat + i - (32 + o.toNat) = i by omega, over_app_left (by simp; omega), hY2]
  have hol : (overL d.dur (32 + o.toNat + i) [[.int .u8 v]]).length = d.dur.length := overL_len (by simp; omega)
  have hob : okB (overL d.dur (32 + o.toNat + i) [[.int .u8 v]]) = true := okB_over hG.ok.bd hcb _
  have hG2 := onB_good hG hol hob
  have hh2 := onB_half (d := d) hol
  have hd2 : (onB d (overL d.dur (32 + o.toNat + i) [[.int .u8 v]])).dur = (wHdr 1 ++ E1) ++ (Y2 ++ (E2 ++ Z (d.dur.length - 32 - l.fin.toNat))) := hov
  have hd2l : (onB d (overL d.dur (32 + o.toNat + i) [[.int .u8 v]])).dur.length = d.dur.length := hol
  generalize onB d (overL d.dur (32 + o.toNat + i) [[.int .u8 v]]) = d2 at *
  have g1 : d2.gen 1 = 0 := by
    refine gen1_zero hG2 (by omega) (x := (wHdr 1 ++ E1) ++ (Y2 ++ E2)) (k := d.dur.length - 32 - l.fin.toNat) ?_ ?_
    · rw [hd2]; simp
    · simp only [List.length_append, wHdr_len]; omega
  have hop := open_one hG2 (by omega) (y := E1 ++ (Y2 ++ (E2 ++ Z (d.dur.length - 32 - l.fin.toNat)))) (by rw [hd2]; simp) g1
  have har : subL (E1 ++ (Y2 ++ (E2 ++ Z (d.dur.length - 32 - l.fin.toNat)))) 0 (d2.half - 32).toNat = E1 ++ (Y2 ++ subL (E2 ++ Z (d.dur.length - 32 - l.fin.toNat)) 0 ((d2.half - 32).toNat - E1.length - Y2.length)) := by
    rw [sub_take _ _ (by omega), sub_take _ _ (by omega)]
  have harl : (subL (E1 ++ (Y2 ++ (E2 ++ Z (d.dur.length - 32 - l.fin.toNat)))) 0 (d2.half - 32).toNat).length = (d2.half - 32).toNat := by
    rw [subL_len (by simp only [List.length_append, List.length_replicate]; omega)]; omega
  rw [har] at hop harl
  generalize hR : subL (E2 ++ Z (d.dur.length - 32 - l.fin.toNat)) 0 ((d2.half - 32).toNat - E1.length - Y2.length) = R at *
  have hYb : okB Y = true := by rw [← hY]; exact wEnc_okB _ _ hxb
  have hE2b : okB E2 = true := by rw [← hE2]; exact encW_okB _ _ _ fun r hr => hI.live.recs r (List.mem_of_mem_drop hr)
  have hRb : okB R = true := by rw [← hR]; exact okB_sub (okB_app hE2b (okB_rep _)) _ _
  have hY2b : okB Y2 = true := by rw [← hY2]; exact okB_over hYb hcb _
  have hbad : (recB 1 o (Y2 ++ R)).2 = false := by
    rw [← hY2, ← hY]
    exact recB_bad hxb hx.1 hx.2 hi hil hv (by rw [hY]; exact hn)
  have hEt : recsE (l.recs.take j) = 0 := recsE_mk fun r hr => recsE_mem hI.live.recsE r (List.mem_of_mem_take hr)
  have hbt : ∀ r ∈ l.recs.take j, okB (nl r 0) = true := fun r hr => hI.live.recs r (List.mem_of_mem_take hr)
  have hsc : wScan 1 (E1 ++ (Y2 ++ R)) = (cloneR (l.recs.take j), o) := by
    have := scan_enc0 (g := 1) hEt hbt (okB_app hY2b hRb) (by rw [hoe]; exact hbad)
    rw [hoe, hE1] at this
    exact this
  have lv : ∀ d3 : Dk, Good d3 → d3.dur.length = d.dur.length → Live d3 ⟨0, 1, cloneR (l.recs.take j), o, false⟩ := fun d3 h3 hl3 => by
    have hh3 : d3.half = d.half := by unfold Dk.half; rw [hl3]
    refine ⟨h3, ⟨by show (0 : Int) ≤ 0 ∧ (0 : Int) ≤ 1; omega, by show (0 : Int) ≤ 1 ∧ (1 : Int) < _; omega, by rw [hh3]; exact h64, ?_, ?_⟩, rfl, ?_, clone_okB hbt, ?_⟩
    · rw [hh3]
      show 0 ≤ o ∧ o ≤ d.half - 32
      omega
    · show ((cloneR (l.recs.take j)).length : Int) ≤ o
      rw [cloneR_len]; exact hnt.2
    · show o = recsN (cloneR (l.recs.take j))
      rw [recsN_clone, hoe]
    · show recsE (cloneR (l.recs.take j)) = 0
      rw [recsE_clone]; exact hEt
  rw [hop]
  unfold openT
  rw [hsc]
  dsimp only
  split
  · exact ⟨d2, rfl, lv d2 hG2 hd2l, hd2l⟩
  · have hs := store_good hG2 (o := 0 * d2.half + 32 + o) (x := zeros ((E1 ++ (Y2 ++ R)).length - o)) (by omega) (by rw [zeros_len]; omega)
    rw [hs]
    have hol3 : (overL d2.dur (0 * d2.half + 32 + o).toNat (zeros ((E1 ++ (Y2 ++ R)).length - o))).length = d2.dur.length := overL_len (by rw [zeros_len]; omega)
    exact ⟨_, rfl, lv _ (onB_good hG2 hol3 (okB_over hG2.ok.bd (zeros_okB _) _)) (by show (overL d2.dur _ _).length = _; rw [hol3]; exact hd2l), by show (overL d2.dur _ _).length = _; rw [hol3]; exact hd2l⟩

theorem turned_row {d : Dk} {l : Lg} {a : List (List Cell)} {j i : Nat} (hI : Inv d l) (hr : l.recs = a) (hj : j < a.length) (hil : i < (nl (Abs.rowAt a j) 0).length + 10) :
    32 + (recsN (a.take j)).toNat + i + 1 ≤ d.dur.length ∧ Abs.rowAt d.dur (32 + (recsN (a.take j)).toNat + i) = Abs.rowAt (wEnc 1 (recsN (a.take j)) (nl (Abs.rowAt a j) 0)) i := by
  subst hr
  have hnt := recsN_nn (l.recs.take j)
  have hel := encW_len 1 (l.recs.take j) 0
  have hsp := split_at hj
  have hwl := wEnc_len 1 (recsN (l.recs.take j)) (nl (Abs.rowAt l.recs j) 0)
  have henc : encW 1 0 l.recs = encW 1 0 (l.recs.take j) ++ (wEnc 1 (recsN (l.recs.take j)) (nl (Abs.rowAt l.recs j) 0) ++ encW 1 (recsN (l.recs.take j) + (nl (Abs.rowAt l.recs j) 0).length + 10) (l.recs.drop (j + 1))) := by
    conv => lhs; rw [hsp, encW_app]
    rw [encW, Int.zero_add]
  have hdur : d.dur = (wHdr 1 ++ encW 1 0 (l.recs.take j)) ++ (wEnc 1 (recsN (l.recs.take j)) (nl (Abs.rowAt l.recs j) 0) ++ (encW 1 (recsN (l.recs.take j) + (nl (Abs.rowAt l.recs j) 0).length + 10) (l.recs.drop (j + 1)) ++ Z (d.dur.length - 32 - l.fin.toNat))) := by
    conv => lhs; rw [hI.dur, henc]
    simp
  have hAl : (wHdr 1 ++ encW 1 0 (l.recs.take j)).length = 32 + (recsN (l.recs.take j)).toNat := by rw [List.length_append, wHdr_len]; omega
  generalize wHdr 1 ++ encW 1 0 (l.recs.take j) = A at *
  generalize encW 1 (recsN (l.recs.take j) + (nl (Abs.rowAt l.recs j) 0).length + 10) (l.recs.drop (j + 1)) ++ Z (d.dur.length - 32 - l.fin.toNat) = B at *
  have hlen := congrArg List.length hdur
  simp only [List.length_append] at hlen
  refine ⟨by omega, ?_⟩
  rw [hdur, row_app_right (by omega) (by simp only [List.length_append]; omega), hAl, row_app_left (by omega)]
  congr 1
  omega

theorem write_sync {d : Dk} (h : Good d) {o : Int} {x : List (List Cell)} (h0 : 0 ≤ o) (ho : o + x.length ≤ d.dur.length) : (d.write o x).e = 0 ∧ (d.write o x).d.sync = ⟨onB d (overL d.dur o.toNat x), 0⟩ := by
  have hs := store_good h h0 ho
  have hw : (d.write o x).e = 0 := by
    obtain ⟨q', h1, -⟩ := wrF_good (x.length + 1) d o x h.arm h0 (by rw [h.cur]; exact ho) (by omega)
    unfold Dk.write
    rw [if_neg (by rw [chk_mk h.down h0 (by omega) (by rw [h.cur]; omega)]; simp), h1]
  refine ⟨hw, ?_⟩
  unfold Dk.store at hs
  rw [if_pos hw] at hs
  exact hs
theorem row_sub {x : List (List Cell)} {p : Nat} (h : p < x.length) : subL x p (p + 1) = [Abs.rowAt x p] := by
  rw [subL_eq, List.drop_take, drop_cons x p h]
  have : p + 1 - p = 1 := by omega
  rw [this]
  rfl

theorem t6 {d : Dk} {l : Lg} {a : List (List Cell)} {j i : Nat} {by' p : Int} (hI : Inv d l) (hr : l.recs = a) (ha : ∀ s ∈ a, okB (nl s 0) = true ∧ 1 ≤ (nl s 0).length ∧ (nl s 0).length ≤ 41 ∧ s = wRow (nl s 0)) (hal : a.length ≤ 6) (hn : d.dur.length = 1024) (hj : j < a.length) (hi : i = 0 ∨ 5 ≤ i) (hil : i < (nl (Abs.rowAt a j) 0).length + 10)
    (hy : 0 ≤ by' ∧ by' < 256) (hy0 : by' ≠ 0) (hp : p = ((32 + (recsN (a.take j)).toNat + i : Nat) : Int)) {T F : Option (List AV × List Block)} :
    (cond (okDk 1024 1024 d) (cond ((Dk.chk d p 1) != 0) F (cond (((Dk.rd d p 1).length : Int) != 1) F (cond (inB 0 (Dk.rd d p 1).length)
     (cond (okDk 1024 1024 d && okWx d [[Cell.int .u8 (xorI .u8 (nr (Abs.rowAt (Dk.rd d p 1) 0) 0) by')]])
      (cond ((Dr.e (Dk.write d p [[Cell.int .u8 (xorI .u8 (nr (Abs.rowAt (Dk.rd d p 1) 0) 0) by')]])) != 0) F
       (cond (okDk 1024 1024 (Dr.d (Dk.write d p [[Cell.int .u8 (xorI .u8 (nr (Abs.rowAt (Dk.rd d p 1) 0) 0) by')]])))
        (cond ((Dr.e (Dk.sync (Dr.d (Dk.write d p [[Cell.int .u8 (xorI .u8 (nr (Abs.rowAt (Dk.rd d p 1) 0) 0) by')]])))) != 0) F
         (cond (okDk 1024 1024 (Dr.d (Dk.sync (Dr.d (Dk.write d p [[Cell.int .u8 (xorI .u8 (nr (Abs.rowAt (Dk.rd d p 1) 0) 0) by')]])))) && (pd ((Dk.q (Dr.d (Dk.sync (Dr.d (Dk.write d p [[Cell.int .u8 (xorI .u8 (nr (Abs.rowAt (Dk.rd d p 1) 0) 0) by')]]))))).length ≤ 1000000) && ((Lr.e (openM (Dr.d (Dk.sync (Dr.d (Dk.write d p [[Cell.int .u8 (xorI .u8 (nr (Abs.rowAt (Dk.rd d p 1) 0) 0) by')]])))))) == 0)))
          (cond (okRs (Lg.recs (Lr.l (openM (Dr.d (Dk.sync (Dr.d (Dk.write d p [[Cell.int .u8 (xorI .u8 (nr (Abs.rowAt (Dk.rd d p 1) 0) 0) by')]]))))))))
           (cond (inB (j : Int) (a.length + 1))
            (cond (pd ((cloneR (Lg.recs (Lr.l (openM (Dr.d (Dk.sync (Dr.d (Dk.write d p [[Cell.int .u8 (xorI .u8 (nr (Abs.rowAt (Dk.rd d p 1) 0) 0) by')]])))))))).length ≤ 9223372036854775807))
             (cond (sameR (cloneR (Lg.recs (Lr.l (openM (Dr.d (Dk.sync (Dr.d (Dk.write d p [[Cell.int .u8 (xorI .u8 (nr (Abs.rowAt (Dk.rd d p 1) 0) 0) by')]])))))))) (takeN a (Int.toNat (j : Int))))
              (cond (okDk 1024 1024 (Lr.d (openM (Dr.d (Dk.sync (Dr.d (Dk.write d p [[Cell.int .u8 (xorI .u8 (nr (Abs.rowAt (Dk.rd d p 1) 0) 0) by')]])))))) && okLg (Lr.d (openM (Dr.d (Dk.sync (Dr.d (Dk.write d p [[Cell.int .u8 (xorI .u8 (nr (Abs.rowAt (Dk.rd d p 1) 0) 0) by')]])))))) (Lr.l (openM (Dr.d (Dk.sync (Dr.d (Dk.write d p [[Cell.int .u8 (xorI .u8 (nr (Abs.rowAt (Dk.rd d p 1) 0) 0) by')]])))))) && okAp (Lr.d (openM (Dr.d (Dk.sync (Dr.d (Dk.write d p [[Cell.int .u8 (xorI .u8 (nr (Abs.rowAt (Dk.rd d p 1) 0) 0) by')]])))))) [[Cell.int .u8 5]])
               (cond ((Lr.e (appM (Lr.d (openM (Dr.d (Dk.sync (Dr.d (Dk.write d p [[Cell.int .u8 (xorI .u8 (nr (Abs.rowAt (Dk.rd d p 1) 0) 0) by')]])))))) (Lr.l (openM (Dr.d (Dk.sync (Dr.d (Dk.write d p [[Cell.int .u8 (xorI .u8 (nr (Abs.rowAt (Dk.rd d p 1) 0) 0) by')]])))))) [[Cell.int .u8 5]])) == 0) T F) none) F) none) none) none) none)) none)) none) none))) none) = T := by
  have hG := hI.live.good
  obtain ⟨r1, r2⟩ := turned_row hI hr hj hil
  have hok := hI.live.okDk hn
  have hc : d.chk p 1 = 0 := chk_mk hG.down (by omega) (by omega) (by rw [hG.cur]; omega)
  have hrd : d.rd p 1 = [Abs.rowAt d.dur (32 + (recsN (a.take j)).toNat + i)] := by
    rw [rd_of hc, hG.cur]
    have e1 : p.toNat = 32 + (recsN (a.take j)).toNat + i := by omega
    have e2 : (p + 1).toNat = 32 + (recsN (a.take j)).toNat + i + 1 := by omega
    rw [e1, e2, row_sub (by omega)]
  rw [hrd, hc]
  have hw8 := okB_at hG.ok.bd (i := 32 + (recsN (a.take j)).toNat + i) (by omega)
  show (cond _ (cond _ F (cond _ F (cond _ (cond (_ && okWx d [[Cell.int .u8 (xorI .u8 (nr (Abs.rowAt d.dur (32 + (recsN (a.take j)).toNat + i)) 0) by')]]) _ _) _))) _) = T
  have hrow : Abs.rowAt [Abs.rowAt d.dur (32 + (recsN (a.take j)).toNat + i)] 0 = Abs.rowAt d.dur (32 + (recsN (a.take j)).toNat + i) := rfl
  rw [hrow]
  generalize hv : xorI .u8 (nr (Abs.rowAt d.dur (32 + (recsN (a.take j)).toNat + i)) 0) by' = v
  have hvr : 0 ≤ v ∧ v < 256 := by rw [← hv]; exact xor8_range _ _
  have hvn : v ≠ nr (Abs.rowAt d.dur (32 + (recsN (a.take j)).toNat + i)) 0 := by rw [← hv]; exact xor8_ne hw8.1 hw8.2 hy.1 hy.2 hy0
  have hcb : okB [[Cell.int .u8 v]] = true := by simp only [okB, List.all_cons, List.all_nil, isByte, Bool.and_true, Bool.and_eq_true, decide_eq_true_eq]; omega
  obtain ⟨w1, w2⟩ := write_sync hG (o := p) (x := [[Cell.int .u8 v]]) (by omega) (by show p + ((1 : Nat) : Int) ≤ _; omega)
  have hkw := write_kept (o := p) hG.ok hcb (by rw [hG.q]; show 0 + 1 ≤ 4000000; omega)
  obtain ⟨d3, o1, o2, o3⟩ := turned hI hr hj hi hil hvr (by rw [← r2]; exact hvn)
  have hpe : p.toNat = 32 + (recsN (a.take j)).toNat + i := by omega
  rw [hpe] at w2
  rw [w2]
  dsimp only
  rw [o1]
  dsimp only
  have hol : (overL d.dur (32 + (recsN (a.take j)).toNat + i) [[.int .u8 v]]).length = d.dur.length := overL_len (by simp; omega)
  have hG2 := onB_good hG hol (okB_over hG.ok.bd hcb _)
  have ok2 : okDk 1024 1024 (onB d (overL d.dur (32 + (recsN (a.take j)).toNat + i) [[.int .u8 v]])) = true := okDk_mk (by show 1024 = (overL _ _ _).length; omega) (by show 1024 = (overL _ _ _).length; omega) hG2.ok
  have hct : cloneR (a.take j) = a.take j := clone_same fun s hs => (ha s (List.mem_of_mem_take hs)).2.2.2
  rw [hct] at o2 ⊢
  rw [hct]
  have hsm := sameR_clone (a.take j)
  rw [hct] at hsm
  have hn2 := recsN_mul (a := a.take j) (k := 51) fun s hs => by have := ha s (List.mem_of_mem_take hs); omega
  rw [List.length_take] at hn2
  have hh3 : d3.half = 512 := by unfold Dk.half; rw [o3, hn]; rfl
  have hap := app_fits o2 (x := [[Cell.int .u8 5]]) rfl (by decide) (by
    unfold Lg.free
    rw [hh3]
    show ((1 : Nat) : Int) + 10 ≤ 512 - 32 - recsN (a.take j)
    omega)
  refine ct hok (cf rfl (cf rfl (ct rfl (ct (and_mk hok (okWx_mk hcb (by rw [hG.q]; show 0 + 1 ≤ 4000000; omega))) (cf (bne_f w1) (ct (kept_ok hok hkw) (cf rfl (ct (and_mk ok2 (and_mk (pd_t (by show 0 ≤ 1000000; omega)) rfl)) (ct o2.okRs (ct (inB_le (by omega) (by omega)) (ct (pd_t (by rw [List.length_take]; omega)) (ct (by rw [takeN_eq, Int.toNat_natCast]; exact hsm) (ct (and_mk (and_mk (o2.okDk (by omega)) o2.okLg) (o2.okAp rfl)) (ct (beq_t (by rw [hap.1])) rfl))))))))))))))

theorem l6 (a : List (List Cell)) (at' by' : Int) (j : Nat) (ha : ∀ s ∈ a, okB (nl s 0) = true ∧ 1 ≤ (nl s 0).length ∧ (nl s 0).length ≤ 41 ∧ s = wRow (nl s 0)) (hal : a.length ≤ 6) (hj : j < a.length ∨ a = []) (hy : 0 ≤ by' ∧ by' < 256) :
    ∀ (k i : Nat) (d : Dk) (l : Lg), i + k = a.length → Inv d l → d.dur.length = 1024 → l.recs = a.take i → ∃ m, goF E (callOf L10) F6 0 m P6_0 (M6_0 at' by' a (32 + recsN (a.take (min i j))) j i 1024 1024 d.q d.arm d.left d.down d.dur d.cur l.act l.gen l.recs l.fin l.failed) = some ([.one (.bool true)], []) := by
  intro k
  induction k with
  | zero =>
    intro i d l hi hI hn hr
    have hi' : i = a.length := by omega
    subst hi'
    rw [List.take_length] at hr
    refine ⟨1, ?_⟩
    rw [e6_0]
    dsimp only
    rw [dk_eta]
    refine cf (decide_eq_false (by omega)) ?_
    by_cases ha0 : a = []
    · exact ct (by rw [ha0]; rfl) rfl
    have hj : j < a.length := hj.resolve_right ha0
    refine cf (beq_eq_false_iff_ne.mpr (by omega)) ?_
    by_cases hy0 : by' = 0
    · exact ct (beq_t hy0) rfl
    refine cf (beq_eq_false_iff_ne.mpr hy0) ?_
    have hm := ha _ (rowAt_mem hj)
    have hmin : min a.length j = j := by omega
    have hnn := recsN_nn (a.take j)
    have hn2 := recsN_mul (a := a.take j) (k := 51) fun s hs => by have := ha s (List.mem_of_mem_take hs); omega
    rw [List.length_take] at hn2
    rw [hmin, Int.toNat_natCast]
    rw [wrap64 (n := ((nl (Abs.rowAt a j) 0).length : Int) + 10) (by omega) (by omega), wrap64 (n := ((nl (Abs.rowAt a j) 0).length : Int) + 10 - 4) (by omega) (by omega)]
    have hg := gIndex_of (n := at') (k := ((nl (Abs.rowAt a j) 0).length : Int) + 10 - 4) (by omega)
    generalize gIndex at' (((nl (Abs.rowAt a j) 0).length : Int) + 10 - 4) = z at *
    refine ct (inB_nat' hj) (ct (pd_t (by omega)) ?_)
    by_cases hz : z > 0
    · refine ct (decide_eq_true hz) ?_
      rw [wrap64 (n := z + 4) (by omega) (by omega), wrap64 (n := 32 + recsN (a.take j) + (z + 4)) (by omega) (by omega)]
      exact t6 (i := (z + 4).toNat) hI hr ha hal hn hj (.inr (by omega)) (by omega) hy hy0 (by omega)
    · refine cf (decide_eq_false hz) ?_
      rw [wrap64 (n := 32 + recsN (a.take j) + z) (by omega) (by omega)]
      exact t6 (i := 0) hI hr ha hal hn hj (.inl rfl) (by omega) hy hy0 (by omega)
  | succ k ih =>
    intro i d l hi hI hn hr
    have hh : d.half = 512 := by unfold Dk.half; rw [hn]; rfl
    obtain ⟨a0, a1, a2, a3, a4, a5⟩ := app_next hI ha (i := i) (by omega) hr (by omega)
    obtain ⟨m, hm⟩ := ih (i + 1) _ _ (by omega) a2 (by omega) a3
    have hx := ha _ (rowAt_mem (x := a) (i := i) (by omega))
    refine ⟨m + 1, ?_⟩
    rw [e6_0]
    dsimp only
    rw [dk_eta, lg_eta, Int.toNat_natCast, wrap64 (n := (i : Int) + 1) (by omega) (by omega)]
    refine ct (decide_eq_true (by omega)) (ct (inB_nat' (by omega)) (ct (and_mk (and_mk (hI.live.okDk hn) hI.live.okLg) (hI.live.okAp a0)) (cf (bne_f a1) ?_)))
    have hn2 := recsN_mul (a := a.take (min i j)) (k := 51) fun s hs => by have := ha s (List.mem_of_mem_take hs); omega
    have hnn := recsN_nn (a.take (min i j))
    rw [List.length_take] at hn2
    by_cases hij : i < j
    · have e1 : min i j = i := by omega
      have e2 : min (i + 1) j = i + 1 := by omega
      rw [e1] at hn2 hnn ⊢
      rw [e2, take_succ' (by omega), recsN_app] at hm
      have e3 : 32 + (recsN (a.take i) + recsN [Abs.rowAt a i]) = 32 + recsN (a.take i) + ((nl (Abs.rowAt a i) 0).length : Int) + 10 := by simp [recsN]; omega
      rw [e3] at hm
      rw [wrap64 (n := 32 + recsN (a.take i) + ((nl (Abs.rowAt a i) 0).length : Int)) (by omega) (by omega), wrap64 (n := 32 + recsN (a.take i) + ((nl (Abs.rowAt a i) 0).length : Int) + 10) (by omega) (by omega)]
      exact ct (decide_eq_true (by omega)) (ct (inB_nat' (by omega)) (by exact_mod_cast hm))
    · have e1 : min i j = min (i + 1) j := by omega
      rw [e1]
      exact cf (decide_eq_false (by omega)) (by exact_mod_cast hm)

theorem okY_of {y : Int} (h : okY y = true) : 0 ≤ y ∧ y < 256 := by
  unfold okY at h
  simp only [Bool.and_eq_true] at h
  exact ⟨pd_of h.1, pd_of h.2⟩

theorem k6 (r : List (List Cell)) (w at' by' : Int) (hr : okArg r = true) (hy : okY by' = true) : ∃ m, runF E (callOf L10) m 6 [.one (.sl false 22 r), .one (.int .i64 w), .one (.int .i64 at'), .one (.int .u8 by')] [] = some ([.one (.bool true)], []) := by
  obtain ⟨hr1, hr2⟩ := okArg_of hr
  have hL := live_new 32 (by omega)
  have hI := inv_new 32 (by omega)
  have hA := mkRs_of hr2 6
  have hrec : (openM (newDk 32)).l.recs = [] := by rw [open_new 32 (by omega)]
  have hal : (mkRs r 6).length ≤ 6 := hA.2
  have hg := gIndex_of (n := w) (k := if ((mkRs r 6).length : Int) > 1 then ((mkRs r 6).length : Int) else 1) (by split <;> omega)
  have hlt : gIndex w (if ((mkRs r 6).length : Int) > 1 then ((mkRs r 6).length : Int) else 1) < (mkRs r 6).length ∨ mkRs r 6 = [] := by
    by_cases h0 : (mkRs r 6).length = 0
    · right; exact List.eq_nil_of_length_eq_zero h0
    · left
      have := hg.2
      split at this <;> (split; all_goals omega)
  generalize hje : gIndex w (if ((mkRs r 6).length : Int) > 1 then ((mkRs r 6).length : Int) else 1) = jj at *
  obtain ⟨j, rfl⟩ := Int.eq_ofNat_of_zero_le hg.1
  obtain ⟨m, hm⟩ := l6 (mkRs r 6) at' by' j hA.1 hal (hlt.imp (fun h => by omega) id) (okY_of hy) (mkRs r 6).length 0 _ _ (by omega) hI (by rw [hL.2.1, secN32]) (by rw [hrec]; rfl)
  refine ⟨m + 1, ?_⟩
  rw [e6]
  have hng := new_guard (n := 32) (by omega)
  rw [hrec] at hm
  rw [hje]
  rw [secN32, hrec] at *
  have e0 : (32 : Int) + recsN ((mkRs r 6).take (min 0 j)) = 32 := by simp [recsN]
  rw [e0] at hm
  exact ct hng (ct (and_mk (pd_t hr1) (pd_t (by omega))) (ct (pd_t (by split <;> omega)) hm))

end Go.Proofs.Ytpafnokcmhlbgaa
