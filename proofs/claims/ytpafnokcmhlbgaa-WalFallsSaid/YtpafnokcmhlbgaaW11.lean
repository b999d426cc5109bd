/-
  The laws: room, replacement, failure.
-/
import Derived.Test.YtpafnokcmhlbgaaW10
import Derived.Test.YtpafnokcmhlbgaaEq3
namespace Go.Proofs.Ytpafnokcmhlbgaa
open Go.Abs

theorem beq_t {a b : Int} (h : a = b) : (a == b) = true := by simp [h]
theorem bne_f {a b : Int} (h : a = b) : (a != b) = false := by simp [h]

theorem secN8 : secN 8 = 256 := by decide
theorem secN12 : secN 12 = 384 := by decide
theorem secN32 : secN 32 = 1024 := by decide
theorem secN40 : secN 40 = 1280 := by decide

/- A FRESH LOG -/

theorem new_guard {n : Int} (h : 4 ≤ n) : (okDk (secN n) (secN n) (newDk n) && (pd ((Dk.q (newDk n)).length ≤ 1000000) && ((Lr.e (openM (newDk n))) == 0))) = true := by
  refine and_mk (okDk_mk ?_ ?_ (new_ok n)) (and_mk (pd_t (by show 0 ≤ 1000000; omega)) (by rw [open_new n h]; rfl))
  · exact (List.length_replicate ..).symm
  · exact (List.length_replicate ..).symm

/- RECORDS MADE -/

theorem recsE_mk {a : List (List Cell)} (h : ∀ r ∈ a, 1 ≤ (nl r 0).length ∧ (nl r 0).length ≤ 30000) : recsE a = 0 := by
  induction a with
  | nil => rfl
  | cons r a ih =>
    have hr := h r List.mem_cons_self
    have : recE (nl r 0) = 0 := by
      unfold recE
      rw [if_neg (by omega), if_neg (by omega)]
    rw [recsE, if_neg (by simp [this]), ih fun s hs => h s (List.mem_cons_of_mem _ hs)]
theorem recsN_mul {a : List (List Cell)} {k : Int} (h : ∀ r ∈ a, ((nl r 0).length : Int) + 10 ≤ k) : recsN a ≤ k * a.length := by
  induction a with
  | nil => simp [recsN]
  | cons r a ih =>
    have hr := h r List.mem_cons_self
    have := ih fun s hs => h s (List.mem_cons_of_mem _ hs)
    simp only [recsN, List.length_cons]
    have e : k * ((a.length + 1 : Nat) : Int) = k * a.length + k := by
      rw [Int.natCast_add, Int.mul_add]; simp
    omega
theorem byte_ok (i : Int) : okB [[.int .u8 (IntKind.wrap .u8 i)]] = true := by
  rw [wrapu8_eq]
  simp only [okB, List.all_cons, List.all_nil, isByte, Bool.and_true, Bool.and_eq_true, decide_eq_true_eq]
  omega
theorem mkF_of : ∀ (n : Nat) (i k : Int) (r : List (List Cell)), (∀ q ∈ r, okB (nl q 0) = true) → (∀ s ∈ mkF n i k r, okB (nl s 0) = true ∧ 1 ≤ (nl s 0).length ∧ (nl s 0).length ≤ 41 ∧ s = wRow (nl s 0)) ∧ (mkF n i k r).length ≤ (k - i).toNat
  | 0, i, k, r, _ => by
    refine ⟨fun s hs => ?_, ?_⟩
    · simp [mkF] at hs
    · simp [mkF]
  | n + 1, i, k, [], _ => by
    refine ⟨fun s hs => ?_, ?_⟩
    · simp [mkF] at hs
    · simp [mkF]
  | n + 1, i, k, r :: rs, h => by
    have ih := mkF_of n (i + 1) k rs fun q hq => h q (List.mem_cons_of_mem _ hq)
    rw [mkF]
    split
    · rename_i hik
      refine ⟨fun s hs => ?_, ?_⟩
      · rcases List.mem_cons.mp hs with rfl | hs
        · rw [nl_wRow]
          refine ⟨okB_app (okB_take (h r List.mem_cons_self) _) (byte_ok i), ?_, ?_, rfl⟩
          · simp
          · simp; omega
        · exact ih.1 s hs
      · have := ih.2
        simp only [List.length_cons]
        omega
    · exact ⟨fun s hs => (by cases hs), by simp⟩
theorem mkRs_of {r : List (List Cell)} (h : ∀ q ∈ r, okB (nl q 0) = true) (k : Int) : (∀ s ∈ mkRs r k, okB (nl s 0) = true ∧ 1 ≤ (nl s 0).length ∧ (nl s 0).length ≤ 41 ∧ s = wRow (nl s 0)) ∧ (mkRs r k).length ≤ k.toNat := by
  have := mkF_of r.length 0 k r h
  rw [Int.sub_zero] at this
  exact this
theorem clone_same {a : List (List Cell)} (h : ∀ r ∈ a, r = wRow (nl r 0)) : cloneR a = a := by
  induction a with
  | nil => rfl
  | cons r a ih => rw [cloneR, ih fun s hs => h s (List.mem_cons_of_mem _ hs), ← h r List.mem_cons_self]
theorem okArg_of {r : List (List Cell)} (h : okArg r = true) : r.length ≤ 9223372036854775807 ∧ ∀ q ∈ r, okB (nl q 0) = true := by
  unfold okArg at h
  simp only [Bool.and_eq_true, List.all_eq_true] at h
  exact ⟨pd_of h.1, h.2⟩

/- THE CHECK THAT THE LAWS ARE AWAKE -/

theorem k26 : runF E (callOf L18) 1 26 [] [] = some ([.one (.bool true)], []) := by
  rw [e26]
  dsimp only
  have hi := inv_new 8 (by omega)
  have hl := live_new 8 (by omega)
  rw [secN8] at hl
  have hh0 : (openM (newDk 8)).d.half = 128 := hl.2.2
  have hn0 := hl.2.1
  have hr0 : (openM (newDk 8)).l.recs = [] := by rw [open_new 8 (by omega)]
  have hf0 : (openM (newDk 8)).l.fin = 0 := by rw [open_new 8 (by omega)]
  refine ct (new_guard (by omega)) ?_
  rw [secN8]
  generalize (openM (newDk 8)).d = d0 at *
  generalize (openM (newDk 8)).l = l0 at *
  have hx : okB [[Cell.int .u8 48], [Cell.int .u8 49], [Cell.int .u8 50], [Cell.int .u8 51], [Cell.int .u8 52], [Cell.int .u8 53], [Cell.int .u8 54], [Cell.int .u8 55], [Cell.int .u8 56], [Cell.int .u8 57]] = true := by decide
  have hxE : recE [[Cell.int .u8 48], [Cell.int .u8 49], [Cell.int .u8 50], [Cell.int .u8 51], [Cell.int .u8 52], [Cell.int .u8 53], [Cell.int .u8 54], [Cell.int .u8 55], [Cell.int .u8 56], [Cell.int .u8 57]] = 0 := by decide
  have hxl : [[Cell.int .u8 48], [Cell.int .u8 49], [Cell.int .u8 50], [Cell.int .u8 51], [Cell.int .u8 52], [Cell.int .u8 53], [Cell.int .u8 54], [Cell.int .u8 55], [Cell.int .u8 56], [Cell.int .u8 57]].length = 10 := rfl
  generalize [[Cell.int .u8 48], [Cell.int .u8 49], [Cell.int .u8 50], [Cell.int .u8 51], [Cell.int .u8 52], [Cell.int .u8 53], [Cell.int .u8 54], [Cell.int .u8 55], [Cell.int .u8 56], [Cell.int .u8 57]] = x at *
  refine ct (and_mk (and_mk (hi.live.okDk hn0) hi.live.okLg) (hi.live.okAp hx)) ?_
  obtain ⟨a1, a2, a3, a4, a5, a6⟩ := inv_app hi hx hxE (by unfold Lg.free; omega)
  generalize appM d0 l0 x = z1 at *
  refine cf (bne_f a1) (ct (and_mk (a2.live.okDk (by omega)) a2.live.okLg) ?_)
  refine cf (bne_f (by unfold Lg.free; omega)) (ct (a2.live.okDk (by omega)) ?_)
  have hc := inv_crash a2 0 0
  have hcl : (z1.d.crash 0 0).dur.length = 256 := by rw [crash_good a2.live.good]; show z1.d.dur.length = 256; omega
  have ho := inv_open hc
  have hc2 := inv_again hc
  rw [ho]
  dsimp only
  generalize z1.d.crash 0 0 = d2 at *
  refine ct (and_mk (hc.live.okDk hcl) (and_mk (pd_t (by rw [hc.live.good.q]; simp)) rfl)) ?_
  have hrl : okRl [[Cell.slice 5 [[Cell.int .u8 1]]], [Cell.slice 5 [[Cell.int .u8 2], [Cell.int .u8 3]]]] = true := okRl_mk (by simp) (by decide)
  refine ct (and_mk (and_mk (hc.live.okDk hcl) hc2.live.okLg) (hc.live.okRp hrl)) ?_
  have hh2 : d2.half = 128 := by unfold Dk.half; rw [hcl]; rfl
  obtain ⟨b1, b2, b3, b4, b5, b6, b7⟩ := rep_fits hc2.live (rs := [[Cell.slice 5 [[Cell.int .u8 1]]], [Cell.slice 5 [[Cell.int .u8 2], [Cell.int .u8 3]]]]) (by decide) (by decide) (by rw [hh2]; decide) (by show (1 : Int) + 1 < _; omega)
  generalize repM d2 ⟨0, 1, cloneR z1.l.recs, z1.l.fin, false⟩ [[Cell.slice 5 [[Cell.int .u8 1]]], [Cell.slice 5 [[Cell.int .u8 2], [Cell.int .u8 3]]]] = z2 at *
  refine cf (bne_f b1) (ct b2.okRs ?_)
  rw [b3]
  refine ct rfl (ct rfl (ct (by decide) (ct (beq_t b5) (ct (and_mk (and_mk (b2.okDk (by omega)) b2.okLg) (b2.okAp rfl)) ?_))))
  have e : appM z2.d z2.l [] = ⟨z2.d, z2.l, 2⟩ := by unfold appM; rw [if_neg (by rw [b2.failed]; simp)]; rfl
  rw [e]
  refine ct rfl (ct a2.live.okRs ?_)
  rw [a3, hr0]
  rfl

/- ROOM -/

theorem l4 (r : List (List Cell)) (n : Nat) (hr : ∀ q ∈ r, okB (nl q 0) = true) (hrl : r.length ≤ 40) : ∀ (k i : Nat) (d : Dk) (l : Lg), i + k = r.length → Live d l → d.dur.length = n → l.recs.length ≤ i →
    ∃ m, goF E (callOf L26) F4 0 m P4_0 (M4_0 r l.recs.length i n n d.q d.arm d.left d.down d.dur d.cur l.act l.gen l.recs l.fin l.failed) = some ([.one (.bool true)], []) := by
  intro k
  induction k with
  | zero =>
    intro i d l hi hL hn hc
    refine ⟨1, ?_⟩
    rw [e4_0]
    dsimp only
    refine cf (decide_eq_false (by omega)) (ct hL.okRs (ct (by rw [cloneR_len]; simp) rfl))
  | succ k ih =>
    intro i d l hi hL hn hc
    have hmem := rowAt_mem (x := r) (i := i) (by omega)
    have hx : okB ((nl (Abs.rowAt r i) 0).take 60 ++ [[Cell.int .u8 1]]) = true := okB_app (okB_take (hr _ hmem) _) rfl
    have hxl : 1 ≤ ((nl (Abs.rowAt r i) 0).take 60 ++ [[Cell.int .u8 1]]).length ∧ ((nl (Abs.rowAt r i) 0).take 60 ++ [[Cell.int .u8 1]]).length ≤ 61 := by simp; omega
    have hE : recE ((nl (Abs.rowAt r i) 0).take 60 ++ [[Cell.int .u8 1]]) = 0 := by
      unfold recE
      rw [if_neg (by omega), if_neg (by omega)]
    have hf := free_of hL.good.ok hL.lg
    have hwi : IntKind.wrap .i64 ((i : Int) + 1) = ((i + 1 : Nat) : Int) := by rw [wrap64 (by omega) (by omega)]; omega
    have step := @e4_0
    generalize hxe : (nl (Abs.rowAt r i) 0).take 60 ++ [[Cell.int .u8 1]] = x at *
    by_cases hfit : (x.length : Int) + 10 ≤ l.free d
    · obtain ⟨e, hL2, hh⟩ := app_fits hL hx hE hfit
      have hfin2 : (appM d l x).l.fin = l.fin + x.length + 10 := by rw [e]
      have he2 : (appM d l x).e = 0 := by rw [e]
      have hrec2 : (appM d l x).l.recs = l.recs ++ [wRow x] := by rw [e]
      have hn2 : (appM d l x).d.dur.length = n := by
        rw [e]
        have hfin := hL.lg.fin
        have hsg := seg_half hL.good.ok (s := l.act) (by have := hL.lg.act; omega)
        unfold Lg.free at hfit
        show (overL d.dur _ _).length = n
        rw [overL_len (by rw [wEnc_len]; omega)]; exact hn
      have hc2 : (appM d l x).l.recs.length = l.recs.length + 1 := by rw [hrec2]; simp
      obtain ⟨m, hm⟩ := ih (i + 1) (appM d l x).d (appM d l x).l (by omega) hL2 hn2 (by omega)
      refine ⟨m + 1, ?_⟩
      rw [e4_0]
      dsimp only
      rw [dk_eta, lg_eta, Int.toNat_natCast, show Int.toNat 60 = 60 from rfl, hxe, hwi, wrap64 (n := (x.length : Int) + 10) (by omega) (by omega)]
      refine ct (decide_eq_true (by omega)) (ct (inB_nat' (by omega)) (ct (and_mk (pd_t (by omega)) (pd_t (by omega))) (ct (fits_mk (by simp; omega)) (ct (and_mk (hL.okDk hn) hL.okLg) (ct (and_mk (and_mk (hL.okDk hn) hL.okLg) (hL.okAp hx)) ?_)))))
      rw [wrap64 (n := l.free d - (x.length : Int)) (by omega) (by omega), wrap64 (n := l.free d - (x.length : Int) - 10) (by omega) (by omega)]
      refine cf (decide_eq_false (by omega)) (ct (decide_eq_true (by omega)) (cf (bne_f he2) (ct (and_mk (hL2.okDk hn2) hL2.okLg) (cf (bne_f (by unfold Lg.free; rw [hh, hfin2]; omega)) (ct (beq_t he2) ?_)))))
      rw [wrap64 (n := (l.recs.length : Int) + 1) (by omega) (by omega), show (l.recs.length : Int) + 1 = ((appM d l x).l.recs.length : Int) by rw [hc2]; omega]
      exact hm
    · have e := app_full hL hE (by omega)
      obtain ⟨m, hm⟩ := ih (i + 1) d l (by omega) hL hn (by omega)
      refine ⟨m + 1, ?_⟩
      rw [e4_0]
      dsimp only
      rw [dk_eta, lg_eta, Int.toNat_natCast, show Int.toNat 60 = 60 from rfl, hxe, hwi, wrap64 (n := (x.length : Int) + 10) (by omega) (by omega), e]
      refine ct (decide_eq_true (by omega)) (ct (inB_nat' (by omega)) (ct (and_mk (pd_t (by omega)) (pd_t (by omega))) (ct (fits_mk (by simp; omega)) (ct (and_mk (hL.okDk hn) hL.okLg) (ct (and_mk (and_mk (hL.okDk hn) hL.okLg) (hL.okAp hx)) ?_)))))
      refine ct (decide_eq_true (by omega)) (cf rfl (ct (and_mk (hL.okDk hn) hL.okLg) (cf (bne_f rfl) (cf (decide_eq_false (by omega)) (cf rfl hm)))))

theorem gIndex_of {n k : Int} (hk : 1 ≤ k) : 0 ≤ gIndex n k ∧ gIndex n k < k := by
  unfold gIndex
  rw [if_neg (by omega)]
  exact ⟨Int.emod_nonneg _ (by omega), Int.emod_lt_of_pos _ (by omega)⟩

theorem k4 (z : Int) (r : List (List Cell)) (h : okArg r = true) : ∃ m, runF E (callOf L26) m 4 [.one (.int .i64 z), .one (.sl false 22 r)] [] = some ([.one (.bool true)], []) := by
  obtain ⟨hrl, hrb⟩ := okArg_of h
  have hg := gIndex_of (n := z) (k := 12) (by omega)
  generalize hz1 : IntKind.wrap .i64 (4 + gIndex z 12) = z1
  have hz : 4 ≤ z1 := by rw [← hz1, wrap64 (by omega) (by omega)]; omega
  have hL := live_new z1 hz
  obtain ⟨s1, s2, s3, s4⟩ := secN_of z1
  have hng := new_guard hz
  have hrec : (openM (newDk z1)).l.recs = [] := by rw [open_new z1 hz]
  have hfin : (openM (newDk z1)).l.fin = 0 := by rw [open_new z1 hz]
  have mk : ∀ m, runF E (callOf L26) (m + 1) 4 [.one (.int .i64 z), .one (.sl false 22 r)] [] = _ := fun m => e4 m z r
  dsimp only at mk
  rw [hz1] at mk
  generalize (openM (newDk z1)).e = e0 at *
  by_cases h40 : r.length ≤ 40
  · obtain ⟨m, hm⟩ := l4 r (secN z1) hrb h40 r.length 0 (openM (newDk z1)).d (openM (newDk z1)).l (by omega) hL.1 hL.2.1 (by rw [hrec]; simp)
    rw [hrec] at hm
    refine ⟨m + 1, (mk m).trans ?_⟩
    refine ct (pd_t (by omega)) (ct hng (cf (decide_eq_false (by omega)) (ct (and_mk (hL.1.okDk hL.2.1) hL.1.okLg) (ct (hL.1.okDk hL.2.1) (cf (bne_f ?_) ?_)))))
    · unfold Lg.free secs
      rw [hfin, hL.2.2, hL.2.1, Int.tdiv_eq_ediv_of_nonneg (by omega), wrap64 (n := ((secN z1 / 32 : Nat) : Int) / 2) (by omega) (by omega), wrap64 (n := ((secN z1 / 32 : Nat) : Int) / 2 - 1) (by omega) (by omega), wrap64 (by omega) (by omega)]
      omega
    · rw [hrec]
      exact hm
  · refine ⟨1, (mk 0).trans ?_⟩
    exact ct (pd_t (by omega)) (ct hng (ct (decide_eq_true (by omega)) (ct (decide_eq_true (by omega)) rfl)))

/- APPENDING SHORT RECORDS -/

theorem take_row {a : List (List Cell)} (h : ∀ s ∈ a, s = wRow (nl s 0)) {i : Nat} (hi : i < a.length) : a.take i ++ [wRow (nl (Abs.rowAt a i) 0)] = a.take (i + 1) := by
  rw [take_succ' hi, ← h _ (rowAt_mem hi)]
/-- the next of some short records fits -/
theorem app_next {d : Dk} {l : Lg} {a : List (List Cell)} {i : Nat} (h : Inv d l) (ha : ∀ s ∈ a, okB (nl s 0) = true ∧ 1 ≤ (nl s 0).length ∧ (nl s 0).length ≤ 41 ∧ s = wRow (nl s 0)) (hi : i < a.length) (hr : l.recs = a.take i) (hf : 51 * a.length ≤ d.half - 32) :
    okB (nl (Abs.rowAt a i) 0) = true ∧ (appM d l (nl (Abs.rowAt a i) 0)).e = 0 ∧ Inv (appM d l (nl (Abs.rowAt a i) 0)).d (appM d l (nl (Abs.rowAt a i) 0)).l ∧ (appM d l (nl (Abs.rowAt a i) 0)).l.recs = a.take (i + 1) ∧
    (appM d l (nl (Abs.rowAt a i) 0)).d.dur.length = d.dur.length ∧ (appM d l (nl (Abs.rowAt a i) 0)).d.half = d.half := by
  have hm := ha _ (rowAt_mem hi)
  have hE : recE (nl (Abs.rowAt a i) 0) = 0 := by
    unfold recE
    rw [if_neg (by omega), if_neg (by omega)]
  have hn := recsN_mul (a := a.take i) (k := 51) fun s hs => by have := ha s (List.mem_of_mem_take hs); omega
  rw [List.length_take] at hn
  obtain ⟨a1, a2, a3, a4, a5, a6⟩ := inv_app h hm.1 hE (by unfold Lg.free; rw [h.live.fin, hr]; omega)
  exact ⟨hm.1, a1, a2, by rw [a3, hr, take_row (fun s hs => (ha s hs).2.2.2) hi], a5, a6⟩

/- REPLACEMENT -/

theorem l5_1 (a b : List (List Cell)) (d : Dk) (l : Lg) (hI : Inv d l) (hn : d.dur.length = 384) (hr : l.recs = a) (ha : ∀ s ∈ a, s = wRow (nl s 0)) (hb : ∀ s ∈ b, okB (nl s 0) = true ∧ 1 ≤ (nl s 0).length ∧ (nl s 0).length ≤ 41 ∧ s = wRow (nl s 0)) (hbl : b.length ≤ 6) :
    ∀ (k i : Nat), i + k = b.length → ∃ m, goF E (callOf L4) F5 0 m P5_1 (M5_1 a b (recsN (b.take i)) i 384 384 d.q d.arm d.left d.down d.dur d.cur l.act l.gen l.recs l.fin l.failed) = some ([.one (.bool true)], []) := by
  have hh : d.half = 192 := by unfold Dk.half; rw [hn]; rfl
  intro k
  induction k with
  | zero =>
    intro i hi
    have hi' : i = b.length := by omega
    subst hi'
    rw [List.take_length]
    have hE : recsE b = 0 := recsE_mk fun s hs => by have := hb s hs; omega
    have hrl : okRl b = true := okRl_mk (by omega) fun s hs => (hb s hs).1
    refine ⟨1, ?_⟩
    rw [e5_1]
    dsimp only
    rw [dk_eta, lg_eta]
    refine cf (decide_eq_false (by omega)) (ct (and_mk (hI.live.okDk hn) hI.live.okLg) (ct (and_mk (and_mk (hI.live.okDk hn) hI.live.okLg) (hI.live.okRp hrl)) ?_))
    by_cases h160 : recsN b > 160
    · have e := rep_full hI.live hE (by omega)
      rw [e]
      refine ct (decide_eq_true h160) (ct rfl (ct hI.live.okRs ?_))
      dsimp only
      rw [hr, clone_same ha]
      have hs := sameR_clone a
      rw [clone_same ha] at hs
      have hcl := hI.live.lg.recs
      have hfin := hI.live.lg.fin
      rw [hr] at hcl
      exact ct (pd_t (by omega)) (ct hs (ct (beq_t hI.gen) (ct (and_mk (hI.live.okDk hn) hI.live.okLg) (ct (beq_t rfl) rfl))))
    · obtain ⟨b1, b2, b3, b4, b5, b6, b7⟩ := rep_fits hI.live (rs := b) (fun s hs => (hb s hs).1) hE (by omega) (by rw [hI.gen]; omega)
      have hnn := recsN_nn b
      generalize repM d l b = z at *
      refine cf (decide_eq_false h160) (ct (beq_t b1) (ct b2.okRs ?_))
      rw [b3, clone_same (fun s hs => (hb s hs).2.2.2), clone_same (fun s hs => (hb s hs).2.2.2)]
      have hs := sameR_clone b
      rw [clone_same (fun s hs => (hb s hs).2.2.2)] at hs
      rw [wrap64 (n := 160 - recsN b) (by omega) (by omega)]
      exact ct (pd_t (by omega)) (ct hs (ct (beq_t (by rw [b5, hI.gen]; rfl)) (ct (and_mk (b2.okDk (by omega)) b2.okLg) (ct (beq_t (by unfold Lg.free; rw [b4]; omega)) rfl))))
  | succ k ih =>
    intro i hi
    obtain ⟨m, hm⟩ := ih (i + 1) (by omega)
    have hx := hb _ (rowAt_mem (x := b) (i := i) (by omega))
    have hn2 := recsN_mul (a := b.take i) (k := 51) fun s hs => by have := hb s (List.mem_of_mem_take hs); omega
    have hn3 := recsN_nn (b.take i)
    rw [List.length_take] at hn2
    rw [take_succ' (by omega), recsN_app] at hm
    have e1 : recsN (b.take i) + recsN [Abs.rowAt b i] = recsN (b.take i) + ((nl (Abs.rowAt b i) 0).length : Int) + 10 := by simp [recsN]; omega
    rw [e1] at hm
    refine ⟨m + 1, ?_⟩
    rw [e5_1]
    dsimp only
    rw [Int.toNat_natCast, wrap64 (n := (i : Int) + 1) (by omega) (by omega), wrap64 (n := recsN (b.take i) + ((nl (Abs.rowAt b i) 0).length : Int)) (by omega) (by omega), wrap64 (n := recsN (b.take i) + ((nl (Abs.rowAt b i) 0).length : Int) + 10) (by omega) (by omega)]
    exact ct (decide_eq_true (by omega)) (ct (inB_nat' (by omega)) (by exact_mod_cast hm))
theorem l5_0 (a b : List (List Cell)) (ha : ∀ s ∈ a, okB (nl s 0) = true ∧ 1 ≤ (nl s 0).length ∧ (nl s 0).length ≤ 41 ∧ s = wRow (nl s 0)) (hal : a.length ≤ 2) (hb : ∀ s ∈ b, okB (nl s 0) = true ∧ 1 ≤ (nl s 0).length ∧ (nl s 0).length ≤ 41 ∧ s = wRow (nl s 0)) (hbl : b.length ≤ 6) :
    ∀ (k i : Nat) (d : Dk) (l : Lg), i + k = a.length → Inv d l → d.dur.length = 384 → l.recs = a.take i → ∃ m, goF E (callOf L4) F5 0 m P5_0 (M5_0 a b i 384 384 d.q d.arm d.left d.down d.dur d.cur l.act l.gen l.recs l.fin l.failed) = some ([.one (.bool true)], []) := by
  intro k
  induction k with
  | zero =>
    intro i d l hi hI hn hr
    have hi' : i = a.length := by omega
    subst hi'
    rw [List.take_length] at hr
    obtain ⟨m, hm⟩ := l5_1 a b d l hI hn hr (fun s hs => (ha s hs).2.2.2) hb hbl b.length 0 (by omega)
    refine ⟨m + 1, ?_⟩
    rw [e5_0]
    dsimp only
    exact cf (decide_eq_false (by omega)) hm
  | succ k ih =>
    intro i d l hi hI hn hr
    have hh : d.half = 192 := by unfold Dk.half; rw [hn]; rfl
    obtain ⟨a0, a1, a2, a3, a4, a5⟩ := app_next hI ha (i := i) (by omega) hr (by omega)
    obtain ⟨m, hm⟩ := ih (i + 1) _ _ (by omega) a2 (by omega) a3
    refine ⟨m + 1, ?_⟩
    rw [e5_0]
    dsimp only
    rw [dk_eta, lg_eta, Int.toNat_natCast, wrap64 (n := (i : Int) + 1) (by omega) (by omega)]
    exact ct (decide_eq_true (by omega)) (ct (inB_nat' (by omega)) (ct (and_mk (and_mk (hI.live.okDk hn) hI.live.okLg) (hI.live.okAp a0)) (cf (bne_f a1) (by exact_mod_cast hm))))
theorem k5 (r t : List (List Cell)) (hr : okArg r = true) (ht : okArg t = true) : ∃ m, runF E (callOf L4) m 5 [.one (.sl false 22 r), .one (.sl false 22 t)] [] = some ([.one (.bool true)], []) := by
  obtain ⟨hr1, hr2⟩ := okArg_of hr
  obtain ⟨ht1, ht2⟩ := okArg_of ht
  have hL := live_new 12 (by omega)
  have hI := inv_new 12 (by omega)
  have hA := mkRs_of hr2 2
  have hB := mkRs_of ht2 6
  have hrec : (openM (newDk 12)).l.recs = [] := by rw [open_new 12 (by omega)]
  obtain ⟨m, hm⟩ := l5_0 (mkRs r 2) (mkRs t 6) hA.1 hA.2 hB.1 hB.2 (mkRs r 2).length 0 _ _ (by omega) hI (by rw [hL.2.1, secN12]) (by rw [hrec]; rfl)
  refine ⟨m + 1, ?_⟩
  rw [e5]
  have hg := new_guard (n := 12) (by omega)
  rw [hrec] at hm
  rw [secN12, hrec] at *
  exact ct hg (ct (and_mk (pd_t hr1) (pd_t (by omega))) (ct (and_mk (pd_t ht1) (pd_t (by omega))) hm))

/- FAILURE -/

theorem store_armed {d : Dk} (h : DkOk d) (ha : d.arm = true) (hl : d.left = 0) (hdn : d.down = false) {o : Int} {x : List (List Cell)} (h0 : 0 ≤ o) (ho : o + x.length ≤ d.cur.length) (hx : 1 ≤ x.length) : d.store o x = ⟨⟨d.dur, d.cur, d.q, d.arm, d.left, true⟩, 15⟩ := by
  have hw : d.write o x = ⟨⟨d.dur, d.cur, d.q, d.arm, d.left, true⟩, 15⟩ := by
    unfold Dk.write
    rw [if_neg (by rw [chk_mk hdn h0 (by omega) ho]; simp), wrF, if_neg (by omega), if_pos ⟨ha, hl⟩]
  unfold Dk.store
  rw [hw, if_neg (by simp)]

theorem app_failed {d : Dk} {l : Lg} (h : l.failed = true) (x : List (List Cell)) : appM d l x = ⟨d, l, 15⟩ := by unfold appM; rw [if_pos h]
theorem rep_failed {d : Dk} {l : Lg} (h : l.failed = true) (x : List (List Cell)) : repM d l x = ⟨d, l, 15⟩ := by unfold repM; rw [if_pos h]

theorem l10 (a : List (List Cell)) (q : Int) (ha : ∀ s ∈ a, okB (nl s 0) = true ∧ 1 ≤ (nl s 0).length ∧ (nl s 0).length ≤ 41 ∧ s = wRow (nl s 0)) (hal : a.length ≤ 3) :
    ∀ (k i : Nat) (d : Dk) (l : Lg), i + k = a.length → Inv d l → d.dur.length = 1280 → l.recs = a.take i → ∃ m, goF E (callOf L5) F10 0 m P10_0 (M10_0 q a i 1280 1280 d.q d.arm d.left d.down d.dur d.cur l.act l.gen l.recs l.fin l.failed) = some ([.one (.bool true)], []) := by
  intro k
  induction k with
  | zero =>
    intro i d l hi hI hn hr
    have hi' : i = a.length := by omega
    subst hi'
    rw [List.take_length] at hr
    have hh : d.half = 640 := by unfold Dk.half; rw [hn]; rfl
    have hG := hI.live.good
    have hfk := fail_kept hG.ok 0 (by omega)
    have ef : d.fail 0 = ⟨d.dur, d.cur, d.q, true, 0, false⟩ := by
      unfold Dk.fail
      rw [if_neg (by rw [hG.down]; simp), hG.down]
      rfl
    have hlgf := kept_lg hI.live.lg hfk
    have hfin := hI.live.lg.fin
    have hfn := hI.live.fin
    have hnn := recsN_mul (a := a) (k := 51) fun s hs => by have := ha s hs; omega
    rw [hr] at hfn
    have hdc : d.cur.length = 1280 := by rw [hG.cur]; exact hn
    have okf : okDk 1280 1280 (d.fail 0) = true := okDk_mk (by rw [hfk.len, hn]) (by rw [hfk.ok.cd, hfk.len, hn]) hfk.ok
    have hfh := hfk.half
    have fdur : (d.fail 0).dur = d.dur := by rw [ef]
    have fq : (d.fail 0).q = [] := by rw [ef]; exact hG.q
    have fst := store_armed (d := d.fail 0) hfk.ok (by rw [ef]) (by rw [ef]) (by rw [ef]) (o := l.act * (d.fail 0).half + 32 + l.fin) (x := wEnc l.gen l.fin [[Cell.int .u8 1], [Cell.int .u8 2], [Cell.int .u8 3]]) (by rw [hfh, hI.act]; omega) (by rw [hfh, hI.act, wEnc_len, ef]; show _ + ((3 + 10 : Nat) : Int) ≤ ((d.cur.length : Nat) : Int); omega) (by rw [wEnc_len]; omega)
    have e2 : appM (d.fail 0) l [[Cell.int .u8 1], [Cell.int .u8 2], [Cell.int .u8 3]] = ⟨⟨(d.fail 0).dur, (d.fail 0).cur, (d.fail 0).q, (d.fail 0).arm, (d.fail 0).left, true⟩, ⟨l.act, l.gen, l.recs, l.fin, true⟩, 15⟩ := by
      unfold appM
      rw [if_neg (by rw [hI.live.failed]; simp), if_neg (by decide), if_neg (by unfold Lg.free; rw [hfh]; show ¬ (_ < ((3 : Nat) : Int) + 10); omega), fst, if_neg (by simp)]
    generalize hd2 : (Dk.mk (d.fail 0).dur (d.fail 0).cur (d.fail 0).q (d.fail 0).arm (d.fail 0).left true) = d2 at e2
    have k2 : Kept d d2 0 := by
      rw [← hd2]
      have hok := hfk.ok
      exact ⟨⟨hok.cd, hok.pos, hok.le, hok.sec, hok.q, hok.ql, hok.left, hok.bd, hok.bc⟩, hfk.len, hfk.q⟩
    have d2q : d2.q = [] := by rw [← hd2]; exact fq
    have d2u : d2.dur = d.dur := by rw [← hd2]; exact fdur
    have ec : d2.crash q 0 = ⟨d.dur, d.dur, [], false, 0, false⟩ := by
      have e : crashB d2 q 0 = d.dur := by
        unfold crashB
        rw [d2q]
        have : keepN q ([] : List (List Cell)).length = 0 := by have := (keepN_of q ([] : List (List Cell)).length).1; simp at this; exact this
        rw [this, if_neg (by simp), d2u]
        rfl
      unfold Dk.crash
      rw [e]
    generalize hl2 : (Lg.mk l.act l.gen l.recs l.fin true) = l2 at e2
    have l2f : l2.failed = true := by rw [← hl2]
    have l2r : l2.recs = a := by rw [← hl2]; exact hr
    have l2n : l2.fin = l.fin := by rw [← hl2]
    have lg2 : ∀ {b : Dk} {j : Nat}, Kept d b j → LgOk b l2 := fun kb => by
      have hb := kept_lg hI.live.lg kb
      rw [← hl2]
      exact ⟨hb.act, hb.gen, hb.half, hb.fin, hb.recs⟩
    have kok : ∀ {b : Dk} {j : Nat}, Kept d b j → okDk 1280 1280 b = true := fun kb => okDk_mk (by rw [kb.len, hn]) (by rw [kb.ok.cd, kb.len, hn]) kb.ok
    have k3 : Kept d (d2.crash q 0) 0 := k2.trans (crash_kept k2.ok q 0)
    have hI3 : Inv (d2.crash q 0) l := by
      have := inv_crash hI q 0
      rw [crash_good hG] at this
      rw [ec]
      exact this
    have ho := inv_open hI3
    have hI4 := inv_again hI3
    have q3 : (d2.crash q 0).q = [] := by rw [ec]
    have rl0 : okRl [] = true := okRl_mk (by simp) (by simp)
    have rla : okRl a = true := okRl_mk (by omega) fun s hs => (ha s hs).1
    have ars : okRs a = true := by have := hI.live.okRs; rwa [hr] at this
    have hcs : cloneR a = a := clone_same fun s hs => (ha s hs).2.2.2
    have hs := sameR_clone a
    rw [hcs] at hs
    have hap : ∀ {b : Dk} {x : List (List Cell)}, b.q = [] → okB x = true → okAp b x = true := fun hb hx => okAp_mk hx (by rw [hb]; simp)
    have hrp : ∀ {b : Dk} {x : List (List Cell)}, b.q = [] → okRl x = true → okRp b x = true := fun hb hx => okRp_mk hx (by rw [hb]; simp)
    refine ⟨1, ?_⟩
    rw [e10_0]
    dsimp only
    rw [dk_eta, lg_eta, e2]
    dsimp only
    rw [rep_failed l2f, app_failed l2f, rep_failed l2f, app_failed l2f]
    dsimp only
    rw [ho]
    dsimp only
    rw [l2r]
    have h5 := inv_app hI4 (x := [[Cell.int .u8 1]]) rfl (by decide) (by
      unfold Lg.free
      have : (d2.crash q 0).half = 640 := by rw [k3.half]; exact hh
      rw [this]
      show ((1 : Nat) : Int) + 10 ≤ 640 - 32 - l.fin
      omega)
    have lr : cloneR l.recs = a := by rw [hr]; exact hcs
    rw [lr] at hI4 h5 ⊢
    rw [hcs]
    refine cf (decide_eq_false (by omega)) (ct (and_mk okf (okLg_mk hlgf)) (ct (and_mk (and_mk okf (okLg_mk hlgf)) (hap fq rfl)) (ct (and_mk (and_mk (kok k2) (okLg_mk (lg2 k2))) (hrp d2q rl0)) (ct (kok k2) (ct (and_mk (and_mk (kok k3) (okLg_mk (lg2 k3))) (hap q3 rfl)) (ct (and_mk (and_mk (kok k3) (okLg_mk (lg2 k3))) (hrp q3 rla)) (ct (and_mk (and_mk (kok k3) (okLg_mk (lg2 k3))) (hap q3 rfl)) (ct (and_mk (kok k3) (and_mk (pd_t (by rw [q3]; simp)) rfl)) ?_))))))))
    refine ct rfl (ct rfl (ct rfl (ct rfl (ct rfl (ct ars (ct (pd_t (by omega)) (ct hs (ct (and_mk (kok k3) (okLg_mk (lg2 k3))) (ct (beq_t ?_) (ct ars (ct (pd_t (by omega)) (ct hs (ct (and_mk (and_mk (kok k3) hI4.live.okLg) (hap q3 rfl)) (ct (beq_t h5.1) rfl))))))))))))))
    unfold Lg.free
    rw [k3.half, hfh, l2n]
  | succ k ih =>
    intro i d l hi hI hn hr
    have hh : d.half = 640 := by unfold Dk.half; rw [hn]; rfl
    obtain ⟨a0, a1, a2, a3, a4, a5⟩ := app_next hI ha (i := i) (by omega) hr (by omega)
    obtain ⟨m, hm⟩ := ih (i + 1) _ _ (by omega) a2 (by omega) a3
    refine ⟨m + 1, ?_⟩
    rw [e10_0]
    dsimp only
    rw [dk_eta, lg_eta, Int.toNat_natCast, wrap64 (n := (i : Int) + 1) (by omega) (by omega)]
    exact ct (decide_eq_true (by omega)) (ct (inB_nat' (by omega)) (ct (and_mk (and_mk (hI.live.okDk hn) hI.live.okLg) (hI.live.okAp a0)) (cf (bne_f a1) (by exact_mod_cast hm))))
theorem k10 (r : List (List Cell)) (f q : Int) (hr : okArg r = true) : ∃ m, runF E (callOf L5) m 10 [.one (.sl false 22 r), .one (.int .i64 f), .one (.int .i64 q)] [] = some ([.one (.bool true)], []) := by
  obtain ⟨hr1, hr2⟩ := okArg_of hr
  have hL := live_new 40 (by omega)
  have hI := inv_new 40 (by omega)
  have hA := mkRs_of hr2 3
  have hrec : (openM (newDk 40)).l.recs = [] := by rw [open_new 40 (by omega)]
  obtain ⟨m, hm⟩ := l10 (mkRs r 3) q hA.1 hA.2 (mkRs r 3).length 0 _ _ (by omega) hI (by rw [hL.2.1, secN40]) (by rw [hrec]; rfl)
  refine ⟨m + 1, ?_⟩
  rw [e10]
  have hg := new_guard (n := 40) (by omega)
  rw [hrec] at hm
  rw [secN40, hrec] at *
  exact ct hg (ct (and_mk (pd_t hr1) (pd_t (by omega))) hm)

end Go.Proofs.Ytpafnokcmhlbgaa
