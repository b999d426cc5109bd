/-
  Plain law: what is written is read again.
-/
import Derived.Test.YtpafnokcmhlbgaaW9
namespace Go.Proofs.Ytpafnokcmhlbgaa
open Go.Abs

theorem sub_at (a b c : List (List Cell)) {i j : Nat} (hi : i = a.length) (hj : j = a.length + b.length) : subL (a ++ (b ++ c)) i j = b := by
  subst hi hj
  exact sub_mid a b c

theorem recB_enc {g o : Int} {x rest : List (List Cell)} (h1 : 1 ≤ x.length) (h2 : x.length ≤ 30000) : recB g o (wEnc g o x ++ rest) = (x, true) := by
  have hl := wEnc_len g o x
  have b1 := bigF_len 4 (x.length : Int)
  have b2 := bigF_len 4 (wSum g o x)
  have hw := wSum_range g o x
  have e0 : wEnc g o x ++ rest = [Cell.int .u8 229] :: (bigF 4 x.length ++ (x ++ (bigF 4 (wSum g o x) ++ ([[.int .u8 255]] ++ rest)))) := by simp [wEnc]
  have e1 : wNum (wEnc g o x ++ rest) 1 5 = x.length := by
    unfold wNum
    rw [e0]
    have := sub_at [[Cell.int .u8 229]] (bigF 4 x.length) (x ++ (bigF 4 (wSum g o x) ++ ([[.int .u8 255]] ++ rest))) (i := 1) (j := 5) rfl (by rw [b1]; rfl)
    rw [List.singleton_append] at this
    rw [this, numF_big 4 0 _ (by omega) (by rw [show (256 : Int) ^ 4 = 4294967296 by decide]; omega)]
    omega
  have e2 : subL (wEnc g o x ++ rest) 5 (5 + x.length) = x := by
    rw [e0]
    have := sub_at ([Cell.int .u8 229] :: bigF 4 x.length) x (bigF 4 (wSum g o x) ++ ([[.int .u8 255]] ++ rest)) (i := 5) (j := 5 + x.length) (by rw [List.length_cons, b1]) (by rw [List.length_cons, b1])
    rwa [List.cons_append] at this
  have e3 : wNum (wEnc g o x ++ rest) (5 + x.length) (9 + x.length) = wSum g o x := by
    unfold wNum
    rw [e0]
    have := sub_at ([Cell.int .u8 229] :: (bigF 4 x.length ++ x)) (bigF 4 (wSum g o x)) ([[.int .u8 255]] ++ rest) (i := 5 + x.length) (j := 9 + x.length) (by rw [List.length_cons, List.length_append, b1]; omega) (by rw [List.length_cons, List.length_append, b1, b2]; omega)
    rw [List.cons_append, List.append_assoc] at this
    rw [this, numF_big 4 0 _ hw.1 (by rw [show (256 : Int) ^ 4 = 4294967296 by decide]; exact hw.2)]
    omega
  have e4 : Abs.rowAt (wEnc g o x ++ rest) (9 + x.length) = [.int .u8 255] := by
    have hlt : 9 + x.length < (wEnc g o x ++ rest).length := by rw [List.length_append, hl]; omega
    have hd := drop_cons (wEnc g o x ++ rest) (9 + x.length) hlt
    have e5 : wEnc g o x ++ rest = ([Cell.int .u8 229] :: (bigF 4 x.length ++ (x ++ bigF 4 (wSum g o x)))) ++ ([.int .u8 255] :: rest) := by simp [wEnc]
    have e6 : (wEnc g o x ++ rest).drop (9 + x.length) = [.int .u8 255] :: rest := by
      rw [e5, List.drop_append, List.drop_eq_nil_of_le (by simp [b1, b2]; omega), List.nil_append]
      have : 9 + x.length - ([Cell.int .u8 229] :: (bigF 4 x.length ++ (x ++ bigF 4 (wSum g o x)))).length = 0 := by simp [b1, b2]; omega
      rw [this]; rfl
    rw [hd] at e6
    exact (List.cons.inj e6).1
  have e7 : nr (Abs.rowAt (wEnc g o x ++ rest) 0) 0 = 229 := by rw [e0]; rfl
  have hle : (wEnc g o x ++ rest).length = x.length + 10 + rest.length := by rw [List.length_append, hl]
  unfold recB
  rw [if_neg (by rw [e7, hle]; omega), e1, if_neg (by rw [hle]; omega), Int.toNat_natCast, e2, e3, e4, decide_eq_true rfl, decide_eq_true (show nr [Cell.int .u8 255] 0 = 255 from rfl)]
  rfl

theorem scan_enc {g : Int} : ∀ (rs : List (List Cell)) {o : Int} {rest : List (List Cell)} (k : Nat), recsE rs = 0 → (∀ r ∈ rs, okB (nl r 0) = true) → okB rest = true → (encW g o rs ++ rest).length ≤ k →
    scanF k g o (encW g o rs ++ rest) = (cloneR rs ++ (scanF rest.length g (o + recsN rs) rest).1, (scanF rest.length g (o + recsN rs) rest).2)
  | [], o, rest, k, _, _, hr, hk => by
    simp only [encW, recsN, cloneR, List.nil_append, Int.add_zero] at hk ⊢
    rw [scanF_fuel hr rest.length k (Nat.le_refl _) hk]
  | r :: rs, o, rest, k, hE, hb, hr, hk => by
    have hx := recsE_mem hE r List.mem_cons_self
    have hE' : recsE rs = 0 := by
      simp only [recsE] at hE
      split at hE
      · contradiction
      · exact hE
    have hbx := hb r List.mem_cons_self
    have hb' : ∀ s ∈ rs, okB (nl s 0) = true := fun s hs => hb s (List.mem_cons_of_mem _ hs)
    have hwl := wEnc_len g o (nl r 0)
    have e0 : encW g o (r :: rs) ++ rest = wEnc g o (nl r 0) ++ (encW g (o + (nl r 0).length + 10) rs ++ rest) := by simp [encW]
    rw [e0] at hk ⊢
    cases k with
    | zero => rw [List.length_append] at hk; omega
    | succ k =>
      rw [scanF, recB_enc hx.1 hx.2, if_pos rfl]
      dsimp only
      have hd : (wEnc g o (nl r 0) ++ (encW g (o + (nl r 0).length + 10) rs ++ rest)).drop ((nl r 0).length + 10) = encW g (o + (nl r 0).length + 10) rs ++ rest := by
        rw [List.drop_append, List.drop_eq_nil_of_le (by omega), hwl]
        simp
      rw [hd, scan_enc rs k hE' hb' hr (by rw [List.length_append] at hk; omega)]
      have e1 : o + ((nl r 0).length : Int) + 10 + recsN rs = o + recsN (r :: rs) := by simp only [recsN]; omega
      rw [e1]
      rfl
theorem scan_enc0 {g : Int} {rs rest : List (List Cell)} (hE : recsE rs = 0) (hb : ∀ r ∈ rs, okB (nl r 0) = true) (hr : okB rest = true) (hz : (recB g (recsN rs) rest).2 = false) : wScan g (encW g 0 rs ++ rest) = (cloneR rs, recsN rs) := by
  unfold wScan
  rw [scan_enc rs _ hE hb hr (Nat.le_refl _), Int.zero_add, scan_no _ hz, List.append_nil]

/-- the bytes of a log that was never replaced -/
structure Inv (d : Dk) (l : Lg) : Prop where
  live : Live d l
  act : l.act = 0
  gen : l.gen = 1
  dur : d.dur = wHdr 1 ++ (encW 1 0 l.recs ++ Z (d.dur.length - 32 - l.fin.toNat))

theorem inv_new (n : Int) (h : 4 ≤ n) : Inv (openM (newDk n)).d (openM (newDk n)).l := by
  have hl := live_new n h
  refine ⟨hl.1, by rw [open_new n h], by rw [open_new n h], ?_⟩
  rw [hl.2.1, open_new n h]
  rfl
theorem inv_app {d : Dk} {l : Lg} (h : Inv d l) {x : List (List Cell)} (hx : okB x = true) (hE : recE x = 0) (hf : (x.length : Int) + 10 ≤ l.free d) :
    (appM d l x).e = 0 ∧ Inv (appM d l x).d (appM d l x).l ∧ (appM d l x).l.recs = l.recs ++ [wRow x] ∧ (appM d l x).l.fin = l.fin + x.length + 10 ∧ (appM d l x).d.dur.length = d.dur.length ∧ (appM d l x).d.half = d.half := by
  obtain ⟨e, hl, hh⟩ := app_fits h.live hx hE hf
  have hfin := h.live.lg.fin
  have hfn := h.live.fin
  have hhl := half_of h.live.good.ok
  have hwl := wEnc_len 1 l.fin x
  have hen := encW_len 1 l.recs 0
  unfold Lg.free at hf
  have hod : (appM d l x).d.dur = wHdr 1 ++ (encW 1 0 l.recs ++ (wEnc 1 l.fin x ++ Z (d.dur.length - 32 - l.fin.toNat - (x.length + 10)))) := by
    rw [e, h.act, h.gen]
    show overL d.dur (0 * d.half + 32 + l.fin).toNat (wEnc 1 l.fin x) = _
    have ho : (0 * d.half + 32 + l.fin).toNat = (wHdr 1 ++ encW 1 0 l.recs).length := by rw [List.length_append, wHdr_len]; omega
    have hz : Z (d.dur.length - 32 - l.fin.toNat) = Z (x.length + 10) ++ Z (d.dur.length - 32 - l.fin.toNat - (x.length + 10)) := by
      rw [List.replicate_append_replicate]
      congr 1; omega
    rw [ho]
    conv => lhs; rw [h.dur]
    rw [hz, ← List.append_assoc, over_mid _ _ _ _ (by rw [hwl, List.length_replicate]), List.append_assoc]
  have hdl : (appM d l x).d.dur.length = d.dur.length := by
    rw [hod]
    simp only [List.length_append, List.length_replicate, wHdr_len, hwl]
    omega
  refine ⟨by rw [e], ⟨hl, by rw [e]; exact h.act, by rw [e]; exact h.gen, ?_⟩, by rw [e], by rw [e], hdl, hh⟩
  rw [hdl]
  have er : (appM d l x).l.recs = l.recs ++ [wRow x] := by rw [e]
  have ef : (appM d l x).l.fin = l.fin + x.length + 10 := by rw [e]
  rw [hod, er, ef, encW_app]
  have e1 : encW 1 (0 + recsN l.recs) [wRow x] = wEnc 1 l.fin x := by simp [encW, nl_wRow, hfn]
  have e2 : d.dur.length - 32 - l.fin.toNat - (x.length + 10) = d.dur.length - 32 - (l.fin + x.length + 10).toNat := by omega
  rw [e1, e2, List.append_assoc]

theorem sub_app (a b : List (List Cell)) {i j k : Nat} (hk : k = a.length) (h : k ≤ i) : subL (a ++ b) i j = subL b (i - k) (j - k) := by
  subst hk
  rw [subL_eq, subL_eq, List.take_append, List.drop_append, List.drop_eq_nil_of_le (by rw [List.length_take]; omega), List.nil_append]
  rw [List.length_take]
  by_cases hj : j ≤ a.length
  · rw [show j - a.length = 0 by omega]; simp
  · rw [show min j a.length = a.length by omega]

/-- a disk that has one header, and bytes behind it -/
theorem open_one {d : Dk} (hg : Good d) (h128 : 128 ≤ d.dur.length) {y : List (List Cell)} (hd : d.dur = wHdr 1 ++ y) (h1 : d.gen 1 = 0) :
    openM d = openT d 0 1 (subL y 0 (d.half - 32).toNat) := by
  have hh := half_of hg.ok
  have h64 := hh.2.2.2 h128
  have g0 : d.gen 0 = 1 := by
    unfold Dk.gen
    rw [hg.cur, hd, Int.zero_mul]
    have := sub_at [] (wHdr 1) y (i := (0 : Int).toNat) (j := ((0 : Int) + 32).toNat) rfl (by rw [wHdr_len]; rfl)
    rw [List.nil_append] at this
    rw [this, wGen_hdr (by omega) (by omega)]
  have a0 : d.area 0 = subL y 0 (d.half - 32).toNat := by
    unfold Dk.area
    rw [hg.cur, hd, sub_app _ _ (wHdr_len 1).symm (by omega)]
    have e1 : (0 * d.half + 32).toNat - 32 = 0 := by omega
    have e2 : ((0 + 1) * d.half).toNat - 32 = (d.half - 32).toNat := by omega
    rw [e1, e2]
  unfold openM
  rw [if_neg (by omega), if_neg (by rw [hg.down]; simp), if_neg (by omega), if_neg (by omega), g0, a0]

theorem sub_take (a b : List (List Cell)) {j : Nat} (h : a.length ≤ j) : subL (a ++ b) 0 j = a ++ subL b 0 (j - a.length) := by
  rw [subL_eq, subL_eq, List.take_append, List.take_of_length_le h]
  simp

theorem gen1_zero {d : Dk} (hg : Good d) (h128 : 128 ≤ d.dur.length) {x : List (List Cell)} {k : Nat} (hd : d.dur = x ++ Z k) (hx : (x.length : Int) ≤ d.half) : d.gen 1 = 0 := by
  have hh := half_of hg.ok
  have h64 := hh.2.2.2 h128
  have hl : d.dur.length = x.length + k := by rw [hd, List.length_append, List.length_replicate]
  unfold Dk.gen
  rw [hg.cur, hd, sub_app _ _ rfl (by omega), subL_zero (by omega)]
  exact wGen_zero (by omega)

/-- what a log has is what is read again -/
theorem inv_open {d : Dk} {l : Lg} (h : Inv d l) : openM d = ⟨d, ⟨0, 1, cloneR l.recs, l.fin, false⟩, 0⟩ := by
  have hg := h.live.good
  have hh := half_of hg.ok
  have h64 := h.live.lg.half
  have hfin := h.live.lg.fin
  have hfn := h.live.fin
  have hen := encW_len 1 l.recs 0
  have h1 : d.gen 1 = 0 := by
    refine gen1_zero hg (by omega) (x := wHdr 1 ++ encW 1 0 l.recs) (k := d.dur.length - 32 - l.fin.toNat) ?_ ?_
    · rw [List.append_assoc]; exact h.dur
    · rw [List.length_append, wHdr_len]; omega
  rw [open_one hg (by omega) h.dur h1, sub_take _ _ (by omega), subL_zero (by omega)]
  unfold openT
  rw [scan_enc0 h.live.recsE h.live.recs (okB_rep _) (by rw [recB_zero]), if_pos]
  · rw [hfn]
  · show zeroB ((encW 1 0 l.recs ++ Z ((d.half - 32).toNat - (encW 1 0 l.recs).length - 0)).drop (recsN l.recs).toNat) = true
    rw [List.drop_append, List.drop_eq_nil_of_le (by omega), List.nil_append, List.drop_replicate]
    exact zeroB_zero _

theorem crash_good {d : Dk} (h : Good d) (k t : Int) : d.crash k t = ⟨d.dur, d.dur, [], false, 0, false⟩ := by
  have e : crashB d k t = d.dur := by
    unfold crashB
    rw [h.q]
    have : keepN k ([] : List (List Cell)).length = 0 := by have := (keepN_of k ([] : List (List Cell)).length).1; simp at this; exact this
    rw [this, if_neg (by simp)]
    rfl
  unfold Dk.crash
  rw [e]
theorem inv_crash {d : Dk} {l : Lg} (h : Inv d l) (k t : Int) : Inv (d.crash k t) l := by
  have hc := crash_good h.live.good k t
  have hk := crash_kept h.live.good.ok k t
  rw [hc] at hk ⊢
  exact ⟨⟨⟨hk.ok, rfl, rfl, rfl, rfl⟩, kept_lg h.live.lg hk, h.live.failed, h.live.fin, h.live.recs, h.live.recsE⟩, h.act, h.gen, h.dur⟩

theorem nl_clone {rs : List (List Cell)} : ∀ r ∈ cloneR rs, ∃ s ∈ rs, r = wRow (nl s 0) := by
  induction rs with
  | nil => intro r hr; cases hr
  | cons s rs ih =>
    intro r hr
    rcases List.mem_cons.mp hr with rfl | hr
    · exact ⟨s, List.mem_cons_self, rfl⟩
    · obtain ⟨t, ht, e⟩ := ih r hr
      exact ⟨t, List.mem_cons_of_mem _ ht, e⟩
theorem recsE_clone (rs : List (List Cell)) : recsE (cloneR rs) = recsE rs := by
  induction rs with
  | nil => rfl
  | cons r rs ih => simp only [cloneR, recsE, nl_wRow, ih]
theorem recsN_clone (rs : List (List Cell)) : recsN (cloneR rs) = recsN rs := by
  induction rs with
  | nil => rfl
  | cons r rs ih => simp only [cloneR, recsN, nl_wRow, ih]
theorem encW_clone (g : Int) (rs : List (List Cell)) : ∀ o, encW g o (cloneR rs) = encW g o rs := by
  induction rs with
  | nil => intro o; rfl
  | cons r rs ih => intro o; simp only [cloneR, encW, nl_wRow, ih]
theorem clone_okB {rs : List (List Cell)} (h : ∀ r ∈ rs, okB (nl r 0) = true) : ∀ r ∈ cloneR rs, okB (nl r 0) = true := fun r hr => by
  obtain ⟨s, hs, e⟩ := nl_clone r hr
  rw [e, nl_wRow]
  exact h s hs
/-- the log that is read again -/
theorem inv_again {d : Dk} {l : Lg} (h : Inv d l) : Inv d ⟨0, 1, cloneR l.recs, l.fin, false⟩ := by
  refine ⟨⟨h.live.good, ⟨by show (0 : Int) ≤ 0 ∧ (0 : Int) ≤ 1; omega, by show (0 : Int) ≤ 1 ∧ (1 : Int) < _; omega, h.live.lg.half, h.live.lg.fin, ?_⟩, rfl, ?_, clone_okB h.live.recs, ?_⟩, rfl, rfl, ?_⟩
  · show ((cloneR l.recs).length : Int) ≤ l.fin
    rw [cloneR_len]; exact h.live.lg.recs
  · show l.fin = recsN (cloneR l.recs)
    rw [recsN_clone]; exact h.live.fin
  · show recsE (cloneR l.recs) = 0
    rw [recsE_clone]; exact h.live.recsE
  · show d.dur = wHdr 1 ++ (encW 1 0 (cloneR l.recs) ++ Z (d.dur.length - 32 - l.fin.toNat))
    rw [encW_clone]; exact h.dur

theorem sameF_self : ∀ (a : List (List Cell)), sameF (cloneR a) a = true
  | [] => rfl
  | r :: a => by
    have e : Abs.rowAt (r :: a) 0 = r := rfl
    simp [cloneR, sameF, nl_wRow, e, sameF_self a]
theorem sameR_clone (a : List (List Cell)) : sameR (cloneR a) a = true := by
  unfold sameR
  rw [sameF_self, cloneR_len]
  simp
theorem clone_clone (a : List (List Cell)) : cloneR (cloneR a) = cloneR a := by
  induction a with
  | nil => rfl
  | cons r a ih => simp only [cloneR, nl_wRow, ih]

/- A REPLACEMENT -/

theorem rep_fits {d : Dk} {l : Lg} (h : Live d l) {rs : List (List Cell)} (hb : ∀ r ∈ rs, okB (nl r 0) = true) (hE : recsE rs = 0) (hf : recsN rs ≤ d.half - 32) (hg : l.gen + 1 < 18446744073709551615) :
    (repM d l rs).e = 0 ∧ Live (repM d l rs).d (repM d l rs).l ∧ (repM d l rs).l.recs = cloneR rs ∧ (repM d l rs).l.fin = recsN rs ∧ (repM d l rs).l.gen = l.gen + 1 ∧ (repM d l rs).d.half = d.half ∧ (repM d l rs).d.dur.length = d.dur.length := by
  have hact := h.lg.act
  have hgen := h.lg.gen
  have hsg := seg_half h.good.ok (s := 1 - l.act) (by omega)
  have h64 := h.lg.half
  have hnn := recsN_nn rs
  have hel := encW_len (l.gen + 1) rs 0
  have eB : (repB d l rs).length = (d.half - 32).toNat := by
    unfold repB
    rw [List.length_append, zeros_len]; omega
  have eBb : okB (repB d l rs) = true := okB_app (encW_okB _ _ _ hb) (zeros_okB _)
  have s1 := store_good h.good (o := (1 - l.act) * d.half + 32) (x := repB d l rs) (by omega) (by omega)
  have hol : (overL d.dur ((1 - l.act) * d.half + 32).toNat (repB d l rs)).length = d.dur.length := overL_len (by omega)
  have hD : repD d l rs = ⟨onB d (overL d.dur ((1 - l.act) * d.half + 32).toNat (repB d l rs)), 0⟩ := s1
  have hG := onB_good h.good hol (okB_over h.good.ok.bd eBb _)
  have hwl := wHdr_len (l.gen + 1)
  have s2 := store_good hG (o := (1 - l.act) * d.half) (x := wHdr (l.gen + 1)) (by omega) (by rw [hwl]; show _ ≤ ((overL d.dur ((1 - l.act) * d.half + 32).toNat (repB d l rs)).length : Int); rw [hol]; omega)
  have hH : ∃ b, repH d l rs = ⟨onB d b, 0⟩ ∧ b.length = d.dur.length ∧ okB b = true := by
    unfold repH
    rw [hD]
    exact ⟨_, s2, by rw [overL_len (by rw [hwl]; show _ ≤ (overL d.dur ((1 - l.act) * d.half + 32).toNat (repB d l rs)).length; rw [hol]; omega)]; exact hol, okB_over hG.ok.bd (wHdr_okB _) _⟩
  obtain ⟨b, hH, hbl, hbb⟩ := hH
  have e : repM d l rs = ⟨onB d b, ⟨1 - l.act, l.gen + 1, cloneR rs, recsN rs, false⟩, 0⟩ := by
    unfold repM
    rw [if_neg (by rw [h.failed]; simp), if_neg (by simp [hE]), if_neg (by omega), if_neg (by rw [hD]; simp), if_neg (by rw [hH]; simp), hH]
  have hh := onB_half (d := d) hbl
  rw [e]
  refine ⟨rfl, ⟨onB_good h.good hbl hbb, ⟨by show 0 ≤ 1 - l.act ∧ 1 - l.act ≤ 1; omega, by show 0 ≤ l.gen + 1 ∧ l.gen + 1 < _; omega, by rw [hh]; exact h64, by rw [hh]; show 0 ≤ recsN rs ∧ recsN rs ≤ d.half - 32; omega, by show ((cloneR rs).length : Int) ≤ recsN rs; rw [cloneR_len]; exact hnn.2⟩, rfl, (recsN_clone rs).symm, clone_okB hb, by show recsE (cloneR rs) = 0; rw [recsE_clone]; exact hE⟩, rfl, rfl, rfl, hh, hbl⟩
theorem rep_full {d : Dk} {l : Lg} (h : Live d l) {rs : List (List Cell)} (hE : recsE rs = 0) (hf : d.half - 32 < recsN rs) : repM d l rs = ⟨d, l, 16⟩ := by
  unfold repM
  rw [if_neg (by rw [h.failed]; simp), if_neg (by simp [hE]), if_pos (.inl hf)]

/- IN THE CONTRACTS' WORDS -/

theorem Live.okDk {d : Dk} {l : Lg} (h : Live d l) {n : Nat} (hn : d.dur.length = n) : okDk n n d = true := okDk_mk hn.symm (by rw [h.good.cur]; exact hn.symm) h.good.ok
theorem Live.okLg {d : Dk} {l : Lg} (h : Live d l) : okLg d l = true := okLg_mk h.lg
theorem Live.okAp {d : Dk} {l : Lg} (h : Live d l) {x : List (List Cell)} (hx : okB x = true) : okAp d x = true := okAp_mk hx (by rw [h.good.q]; simp)
theorem Live.okRp {d : Dk} {l : Lg} (h : Live d l) {x : List (List Cell)} (hx : okRl x = true) : okRp d x = true := okRp_mk hx (by rw [h.good.q]; simp)

end Go.Proofs.Ytpafnokcmhlbgaa
