/-
  Plain law: a disk that works, a log on it.
-/
import Derived.Test.YtpafnokcmhlbgaaW8
namespace Go.Proofs.Ytpafnokcmhlbgaa
open Go.Abs

structure Good (d : Dk) : Prop where
  ok : DkOk d
  arm : d.arm = false
  down : d.down = false
  q : d.q = []
  cur : d.cur = d.dur

def onB (d : Dk) (b : List (List Cell)) : Dk := ⟨b, b, [], false, d.left, false⟩

theorem wrF_good : ∀ (k : Nat) (d : Dk) (o : Int) (x : List (List Cell)), d.arm = false → 0 ≤ o → o + x.length ≤ d.cur.length → x.length ≤ k →
    ∃ q', wrF k d o x = ⟨⟨d.dur, overL d.cur o.toNat x, d.q ++ q', d.arm, d.left, d.down⟩, 0⟩ ∧ ∀ b, b.length = d.cur.length → putQ b q' = overL b o.toNat x
  | 0, d, o, x, ha, h0, ho, hx => by
    have hx0 : x = [] := List.eq_nil_of_length_eq_zero (by omega)
    subst hx0
    refine ⟨[], ?_, fun b _ => (overL_nil b _).symm⟩
    rw [overL_nil, List.append_nil]; rfl
  | k + 1, d, o, x, ha, h0, ho, hx => by
    by_cases hx0 : x.length = 0
    · have hx0 : x = [] := List.eq_nil_of_length_eq_zero (by omega)
      subst hx0
      refine ⟨[], ?_, fun b _ => (overL_nil b _).symm⟩
      rw [overL_nil, List.append_nil, wrF_zero]
    obtain ⟨p1, p2, p3, p4⟩ := pcN_of (o := o) (n := x.length) h0 (by omega)
    rw [wrF, if_neg hx0, if_neg (by simp [ha]), if_neg (by simp [ha])]
    generalize pcN o x.length = p at p1 p2 p3 p4
    have htl : (x.take p).length = p := by rw [List.length_take]; omega
    have ov : ∀ b : List (List Cell), b.length = d.cur.length → overL (overL b o.toNat (x.take p)) (o + p).toNat (x.drop p) = overL b o.toNat x := fun b hb => by
      have e : (o + (p : Int)).toNat = o.toNat + (x.take p).length := by omega
      rw [e, overL_over (by rw [List.length_drop]; omega), List.take_append_drop]
    have hol : ∀ b : List (List Cell), b.length = d.cur.length → (overL b o.toNat (x.take p)).length = d.cur.length := fun b hb => by rw [overL_len (by omega), hb]
    obtain ⟨q', h1, h2⟩ := wrF_good k ⟨d.dur, overL d.cur o.toNat (x.take p), d.q ++ [pcR o (x.take p)], d.arm, d.left, d.down⟩ (o + p) (x.drop p) ha (by omega) (by show _ ≤ ((overL d.cur o.toNat (x.take p)).length : Int); rw [hol _ rfl, List.length_drop]; omega) (by rw [List.length_drop]; omega)
    refine ⟨pcR o (x.take p) :: q', ?_, ?_⟩
    · rw [h1]
      dsimp only
      rw [ov _ rfl, List.append_assoc]
      rfl
    · intro b hb
      have := h2 (overL b o.toNat (x.take p)) (by rw [hol b hb]; exact (hol _ rfl).symm)
      rw [putQ]
      show putQ (overL b o.toNat (x.take p)) q' = _
      rw [this, ov b hb]

theorem store_good {d : Dk} (h : Good d) {o : Int} {x : List (List Cell)} (h0 : 0 ≤ o) (ho : o + x.length ≤ d.dur.length) : d.store o x = ⟨onB d (overL d.dur o.toNat x), 0⟩ := by
  have hc := h.cur
  obtain ⟨q', h1, h2⟩ := wrF_good (x.length + 1) d o x h.arm h0 (by rw [hc]; exact ho) (by omega)
  have hw : d.write o x = ⟨⟨d.dur, overL d.cur o.toNat x, d.q ++ q', d.arm, d.left, d.down⟩, 0⟩ := by
    unfold Dk.write
    rw [if_neg (by rw [chk_mk h.down h0 (by omega) (by rw [hc]; omega)]; simp), h1]
  unfold Dk.store
  rw [hw, if_pos rfl]
  unfold Dk.sync
  rw [if_neg (by show ¬ d.down = true; rw [h.down]; simp)]
  dsimp only
  rw [h.q, List.nil_append, h2 d.dur (by rw [hc]), hc, h.arm, h.down]
  rfl

theorem onB_good {d : Dk} (h : Good d) {b : List (List Cell)} (hl : b.length = d.dur.length) (hb : okB b = true) : Good (onB d b) :=
  ⟨⟨rfl, by show 32 ≤ b.length; rw [hl]; exact h.ok.pos, by show b.length ≤ 65536; rw [hl]; exact h.ok.le, by show b.length % 32 = 0; rw [hl]; exact h.ok.sec, (fun r hr => by cases hr), by show 0 ≤ 4000000; omega, h.ok.left, hb, hb⟩, rfl, rfl, rfl, rfl⟩
theorem new_good (n : Int) : Good (newDk n) := ⟨new_ok n, rfl, rfl, rfl, rfl⟩
theorem onB_half {d : Dk} {b : List (List Cell)} (hl : b.length = d.dur.length) : (onB d b).half = d.half := by
  unfold Dk.half onB
  rw [hl]

/- READING -/

theorem sub_mid (a b c : List (List Cell)) : subL (a ++ (b ++ c)) a.length (a.length + b.length) = b := by
  rw [subL_eq, ← List.append_assoc, List.take_append_of_le_length (by simp), List.take_of_length_le (by simp), List.drop_append]
  simp
theorem over_mid (a b c e : List (List Cell)) (h : e.length = b.length) : overL (a ++ (b ++ c)) a.length e = a ++ (e ++ c) := by
  rw [overL_eq, List.take_append_of_le_length (Nat.le_refl _), List.take_length, h]
  congr 2
  rw [← List.append_assoc, List.drop_append, List.drop_eq_nil_of_le (by simp)]
  simp

theorem wGen_hdr {g : Int} (h0 : 0 ≤ g) (h : g < 18446744073709551616) : wGen (wHdr g) = g := by
  have e : wNum (wHdr g) 4 12 = g := by
    unfold wNum
    have hm : wMag.length = 4 := rfl
    have hb := bigF_len 8 g
    have := sub_mid wMag (bigF 8 g) (bigF 4 (crcS (wMag ++ bigF 8 g)) ++ List.replicate 16 [.int .u8 0])
    rw [hm, hb] at this
    unfold wHdr
    rw [this, numF_big 8 0 g h0 (by rw [show (256 : Int) ^ 8 = 18446744073709551616 by decide]; exact h)]
    omega
  unfold wGen
  rw [e, if_pos rfl]

abbrev Z (n : Nat) : List (List Cell) := List.replicate n [.int .u8 0]
theorem numF_zero : ∀ (n : Nat), numF 0 (Z n) = 0
  | 0 => rfl
  | n + 1 => by rw [Z, List.replicate_succ, numF]; exact numF_zero n
theorem subL_zero {n i j : Nat} (h : j ≤ n) : subL (Z n) i j = Z (j - i) := by
  rw [subL_eq, List.take_replicate, List.drop_replicate]
  congr 1
  omega
theorem wGen_zero {n : Nat} (h : 12 ≤ n) : wGen (Z n) = 0 := by
  have e : wNum (Z n) 4 12 = 0 := by
    unfold wNum
    rw [subL_zero h]
    exact numF_zero _
  unfold wGen
  rw [e]
  split <;> rfl
theorem zeroB_zero (n : Nat) : zeroB (Z n) = true := by
  unfold zeroB
  rw [List.all_eq_true]
  intro r hr
  rw [List.eq_of_mem_replicate hr]
  rfl
theorem recB_zero (g o : Int) (n : Nat) : recB g o (Z n) = ([], false) := by
  unfold recB
  rw [if_pos]
  cases n with
  | zero => left; simp
  | succ n =>
    right
    show (0 : Int) ≠ 229
    decide
theorem scan_no {g o : Int} {b : List (List Cell)} (k : Nat) (h : (recB g o b).2 = false) : scanF k g o b = ([], o) := by
  cases k with
  | zero => rfl
  | succ k => rw [scanF, if_neg (by simp [h])]

/-- a new log -/
theorem open_new (n : Int) (h : 4 ≤ n) : openM (newDk n) = ⟨onB (newDk n) (wHdr 1 ++ Z (secN n - 32)), ⟨0, 1, [], 0, false⟩, 0⟩ := by
  obtain ⟨h1, h2, h3, h4⟩ := secN_of n
  have h128 : 128 ≤ secN n := by
    have : (if (if 2048 < n then 2048 else n) > 1 then (if 2048 < n then 2048 else n) else 1) ≥ 4 := by (repeat' split) <;> omega
    omega
  have hl : (newDk n).dur.length = secN n := List.length_replicate ..
  have hg := new_good n
  have hh := half_of hg.ok
  have hhl : (newDk n).half = (secN n / 32 / 2 * 32 : Nat) := by unfold Dk.half; rw [hl]
  have hcu : (newDk n).cur = Z (secN n) := rfl
  have g0 : (newDk n).gen 0 = 0 := by
    unfold Dk.gen
    rw [hcu, subL_zero (by omega)]
    exact wGen_zero (by omega)
  have g1 : (newDk n).gen 1 = 0 := by
    unfold Dk.gen
    rw [hcu, subL_zero (by omega)]
    exact wGen_zero (by omega)
  have a0 : ∃ k, (newDk n).area 0 = Z k := ⟨_, by unfold Dk.area; rw [hcu, subL_zero (by omega)]⟩
  have a1 : ∃ k, (newDk n).area 1 = Z k := ⟨_, by unfold Dk.area; rw [hcu, subL_zero (by omega)]⟩
  obtain ⟨k0, a0⟩ := a0
  obtain ⟨k1, a1⟩ := a1
  have hs : (newDk n).store 0 (wHdr 1) = ⟨onB (newDk n) (wHdr 1 ++ Z (secN n - 32)), 0⟩ := by
    rw [store_good hg (by omega) (by rw [wHdr_len, hl]; omega)]
    have e : (newDk n).dur = Z 32 ++ Z (secN n - 32) := by
      show Z (secN n) = _
      rw [List.replicate_append_replicate]
      congr 1; omega
    have e2 := over_mid [] (Z 32) (Z (secN n - 32)) (wHdr 1) (by rw [wHdr_len]; simp)
    rw [e]
    simp only [List.nil_append] at e2
    rw [show (0 : Int).toNat = ([] : List (List Cell)).length from rfl, e2]
  unfold openM
  rw [if_neg (by omega), if_neg (by show ¬ false = true; simp), if_pos ⟨g0, g1⟩, a0, a1, if_pos ⟨zeroB_zero _, zeroB_zero _⟩, hs, if_pos rfl]
  unfold openT
  have hsc : wScan 1 (Z k0) = ([], 0) := by unfold wScan; exact scan_no _ (by rw [recB_zero])
  rw [hsc]
  rw [if_pos (by show zeroB ((Z k0).drop 0) = true; exact zeroB_zero _)]

/- A LOG THAT WORKS -/

structure Live (d : Dk) (l : Lg) : Prop where
  good : Good d
  lg : LgOk d l
  failed : l.failed = false
  fin : l.fin = recsN l.recs
  recs : ∀ r ∈ l.recs, okB (nl r 0) = true
  recsE : recsE l.recs = 0

theorem Live.okRs {d : Dk} {l : Lg} (h : Live d l) : okRs l.recs = true := by
  have h1 := h.lg.recs
  have h2 := half_of h.good.ok
  have h3 := h.lg.fin
  exact okRs_mk (by omega) fun r hr => ⟨h.recs r hr, (recsE_mem h.recsE r hr).2⟩

theorem nl_wRow (x : List (List Cell)) : nl (wRow x) 0 = x := rfl

theorem app_fits {d : Dk} {l : Lg} (h : Live d l) {x : List (List Cell)} (hx : okB x = true) (hE : recE x = 0) (hf : (x.length : Int) + 10 ≤ l.free d) :
    appM d l x = ⟨onB d (overL d.dur (l.act * d.half + 32 + l.fin).toNat (wEnc l.gen l.fin x)), ⟨l.act, l.gen, l.recs ++ [wRow x], l.fin + x.length + 10, false⟩, 0⟩ ∧
    Live (appM d l x).d (appM d l x).l ∧ (appM d l x).d.half = d.half := by
  have hfin := h.lg.fin
  have hsg := seg_half h.good.ok (s := l.act) (by have := h.lg.act; omega)
  have hwl := wEnc_len l.gen l.fin x
  unfold Lg.free at hf
  have hs := store_good h.good (o := l.act * d.half + 32 + l.fin) (x := wEnc l.gen l.fin x) (by omega) (by omega)
  have e : appM d l x = ⟨onB d (overL d.dur (l.act * d.half + 32 + l.fin).toNat (wEnc l.gen l.fin x)), ⟨l.act, l.gen, l.recs ++ [wRow x], l.fin + x.length + 10, false⟩, 0⟩ := by
    unfold appM
    rw [if_neg (by rw [h.failed]; simp), if_neg (by simp [hE]), if_neg (by unfold Lg.free; omega), hs, if_pos rfl]
  have hol : (overL d.dur (l.act * d.half + 32 + l.fin).toNat (wEnc l.gen l.fin x)).length = d.dur.length := overL_len (by omega)
  have hh := onB_half hol
  have hx1 := recE_of hE
  have hrec := h.lg.recs
  refine ⟨e, ?_, by rw [e]; exact hh⟩
  rw [e]
  refine ⟨onB_good h.good hol (okB_over h.good.ok.bd (wEnc_okB _ _ hx) _), ⟨h.lg.act, h.lg.gen, ?_, ?_, ?_⟩, rfl, ?_, ?_, ?_⟩
  · rw [hh]; exact h.lg.half
  · rw [hh]
    show 0 ≤ l.fin + x.length + 10 ∧ l.fin + x.length + 10 ≤ d.half - 32
    omega
  · show ((l.recs ++ [wRow x]).length : Int) ≤ l.fin + x.length + 10
    simp; omega
  · show l.fin + x.length + 10 = recsN (l.recs ++ [wRow x])
    rw [recsN_app, h.fin]
    simp [recsN, nl_wRow]; omega
  · intro r hr
    rcases List.mem_append.mp hr with hr | hr
    · exact h.recs r hr
    · rw [List.mem_singleton.mp hr]; exact hx
  · show Go.Proofs.Ytpafnokcmhlbgaa.recsE (l.recs ++ [wRow x]) = 0
    rw [recsE_app h.recsE]
    simp [Go.Proofs.Ytpafnokcmhlbgaa.recsE, nl_wRow, hE]
theorem app_full {d : Dk} {l : Lg} (h : Live d l) {x : List (List Cell)} (hE : recE x = 0) (hf : l.free d < (x.length : Int) + 10) : appM d l x = ⟨d, l, 16⟩ := by
  unfold appM
  rw [if_neg (by rw [h.failed]; simp), if_neg (by simp [hE]), if_pos hf]

theorem live_new (n : Int) (h : 4 ≤ n) : Live (openM (newDk n)).d (openM (newDk n)).l ∧ (openM (newDk n)).d.dur.length = secN n ∧ (openM (newDk n)).d.half = (secN n / 32 / 2 * 32 : Nat) := by
  obtain ⟨h1, h2, h3, h4⟩ := secN_of n
  have h128 : 128 ≤ secN n := by
    have : (if (if 2048 < n then 2048 else n) > 1 then (if 2048 < n then 2048 else n) else 1) ≥ 4 := by (repeat' split) <;> omega
    omega
  rw [open_new n h]
  have hl : (newDk n).dur.length = secN n := List.length_replicate ..
  have hll : (wHdr 1 ++ Z (secN n - 32)).length = secN n := by rw [List.length_append, wHdr_len, List.length_replicate]; omega
  have hh : (onB (newDk n) (wHdr 1 ++ Z (secN n - 32))).half = (secN n / 32 / 2 * 32 : Nat) := by
    unfold Dk.half
    show (((wHdr 1 ++ Z (secN n - 32)).length / 32 / 2 * 32 : Nat) : Int) = _
    rw [hll]
  refine ⟨⟨onB_good (new_good n) (by rw [hll, hl]) (okB_app (wHdr_okB 1) (okB_rep _)), ⟨by show (0 : Int) ≤ 0 ∧ (0 : Int) ≤ 1; omega, by show (0 : Int) ≤ 1 ∧ (1 : Int) < _; omega, ?_, ?_, by show ((0 : Nat) : Int) ≤ 0; omega⟩, rfl, rfl, (fun r hr => by cases hr), rfl⟩, hll, hh⟩
  · rw [hh]; omega
  · rw [hh]
    show (0 : Int) ≤ 0 ∧ (0 : Int) ≤ _
    omega

end Go.Proofs.Ytpafnokcmhlbgaa
