/-
  Plain law: a store that is cut, and a crash.
-/
import Derived.Test.YtpafnokcmhlbgaaW12
namespace Go.Proofs.Ytpafnokcmhlbgaa
open Go.Abs

/-- a disk without anything under way -/
structure Up (d : Dk) : Prop where
  ok : DkOk d
  down : d.down = false
  q : d.q = []
  cur : d.cur = d.dur
theorem Good.up {d : Dk} (h : Good d) : Up d := ⟨h.ok, h.down, h.q, h.cur⟩
theorem Up.good {d : Dk} (h : Up d) (ha : d.arm = false) : Good d := ⟨h.ok, ha, h.down, h.q, h.cur⟩

/-- pieces that write bytes, one behind the other -/
def Pcs : Int → List (List Cell) → List (List Cell) → Prop
  | _, [], y => y = []
  | o, r :: q, y => ∃ y1 y2, y = y1 ++ y2 ∧ r = pcR o y1 ∧ Pcs (o + y1.length) q y2

theorem crash_pcs (k : Nat) (t : Int) : ∀ (q : List (List Cell)) (o : Int) (y b : List (List Cell)), Pcs o q y → 0 ≤ o → o + y.length ≤ b.length →
    ∃ i, i ≤ y.length ∧ (if k < q.length then putR (putQ b (q.take k)) (tornR (Abs.rowAt q k) t) else putQ b (q.take k)) = overL b o.toNat (y.take i) := by
  induction k with
  | zero =>
    intro q o y b h h0 ho
    cases q with
    | nil => exact ⟨0, by omega, by simp [putQ, overL_nil]⟩
    | cons r q =>
      obtain ⟨y1, y2, rfl, rfl, -⟩ := h
      refine ⟨keepN t y1.length, ?_, ?_⟩
      · have := (keepN_of t y1.length).1
        rw [List.length_append]; omega
      · have hk := (keepN_of t y1.length).1
        rw [if_pos (by simp), List.take_append_of_le_length hk]
        rfl
  | succ k ih =>
    intro q o y b h h0 ho
    cases q with
    | nil => exact ⟨0, by omega, by simp [putQ, overL_nil]⟩
    | cons r q =>
      obtain ⟨y1, y2, rfl, rfl, h2⟩ := h
      rw [List.length_append] at ho
      have hol : (overL b o.toNat y1).length = b.length := overL_len (by omega)
      obtain ⟨i, hi, e⟩ := ih q (o + y1.length) y2 (overL b o.toNat y1) h2 (by omega) (by rw [hol]; omega)
      refine ⟨y1.length + i, by rw [List.length_append]; omega, ?_⟩
      have e1 : (if k + 1 < (pcR o y1 :: q).length then putR (putQ b ((pcR o y1 :: q).take (k + 1))) (tornR (Abs.rowAt (pcR o y1 :: q) (k + 1)) t) else putQ b ((pcR o y1 :: q).take (k + 1))) =
          (if k < q.length then putR (putQ (overL b o.toNat y1) (q.take k)) (tornR (Abs.rowAt q k) t) else putQ (overL b o.toNat y1) (q.take k)) := by
        have e2 : (k + 1 < (pcR o y1 :: q).length) = (k < q.length) := by simp
        rw [List.take_succ_cons]
        simp only [e2]
        rfl
      rw [e1, e, show (o + (y1.length : Int)).toNat = o.toNat + y1.length by omega, overL_over (x := b) (o := o.toNat) (y := y1) (z := y2.take i) (by rw [List.length_take]; omega)]
      rw [List.take_append, show y1.take (y1.length + i) = y1 from List.take_of_length_le (by omega), show y1.length + i - y1.length = i by omega]

theorem wrF_cut : ∀ (k : Nat) (d : Dk) (o : Int) (x : List (List Cell)), 0 ≤ o → o + x.length ≤ d.cur.length → x.length ≤ k →
    ∃ q' j lf cu dn e, wrF k d o x = ⟨⟨d.dur, cu, d.q ++ q', d.arm, lf, dn⟩, e⟩ ∧ Pcs o q' (x.take j) ∧ j ≤ x.length ∧ ((e = 0 ∧ j = x.length ∧ dn = d.down ∧ cu = overL d.cur o.toNat x ∧ ∀ b, b.length = d.cur.length → putQ b q' = overL b o.toNat x) ∨ (e = 15 ∧ j < x.length))
  | 0, d, o, x, h0, ho, hx => by
    have hx0 : x = [] := List.eq_nil_of_length_eq_zero (by omega)
    subst hx0
    exact ⟨[], 0, d.left, d.cur, d.down, 0, by rw [List.append_nil]; rfl, rfl, Nat.le_refl _, .inl ⟨rfl, rfl, rfl, (overL_nil _ _).symm, fun b _ => (overL_nil b _).symm⟩⟩
  | k + 1, d, o, x, h0, ho, hx => by
    by_cases hx0 : x.length = 0
    · have hx0 : x = [] := List.eq_nil_of_length_eq_zero (by omega)
      subst hx0
      exact ⟨[], 0, d.left, d.cur, d.down, 0, by rw [List.append_nil, wrF_zero], rfl, Nat.le_refl _, .inl ⟨rfl, rfl, rfl, (overL_nil _ _).symm, fun b _ => (overL_nil b _).symm⟩⟩
    rw [wrF, if_neg hx0]
    by_cases hf : d.arm = true ∧ d.left = 0
    · rw [if_pos hf]
      exact ⟨[], 0, d.left, d.cur, true, 15, by rw [List.append_nil], rfl, by omega, .inr ⟨rfl, by omega⟩⟩
    rw [if_neg hf]
    obtain ⟨p1, p2, p3, p4⟩ := pcN_of (o := o) (n := x.length) h0 (by omega)
    generalize pcN o x.length = p at p1 p2 p3 p4
    have htl : (x.take p).length = p := by rw [List.length_take]; omega
    have hol : ∀ b : List (List Cell), b.length = d.cur.length → (overL b o.toNat (x.take p)).length = d.cur.length := fun b hb => by rw [overL_len (by omega), hb]
    have ov : ∀ b : List (List Cell), b.length = d.cur.length → overL (overL b o.toNat (x.take p)) (o + p).toNat (x.drop p) = overL b o.toNat x := fun b hb => by
      have e : (o + (p : Int)).toNat = o.toNat + (x.take p).length := by omega
      rw [e, overL_over (by rw [List.length_drop]; omega), List.take_append_drop]
    obtain ⟨q', j, lf, cu, dn, e, h1, h2, h3, h4⟩ := wrF_cut k ⟨d.dur, overL d.cur o.toNat (x.take p), d.q ++ [pcR o (x.take p)], d.arm, (if d.arm = true then d.left - 1 else d.left), d.down⟩ (o + p) (x.drop p) (by omega) (by show _ ≤ ((overL d.cur o.toNat (x.take p)).length : Int); rw [hol _ rfl, List.length_drop]; omega) (by rw [List.length_drop]; omega)
    rw [List.length_drop] at h3 h4
    refine ⟨pcR o (x.take p) :: q', p + j, lf, cu, dn, e, ?_, ?_, by omega, ?_⟩
    · rw [h1, List.append_assoc]; rfl
    · refine ⟨x.take p, (x.drop p).take j, ?_, rfl, by rw [htl]; exact h2⟩
      rw [List.take_add]
    · rcases h4 with ⟨a1, a2, a3, a4, a5⟩ | ⟨a1, a2⟩
      · refine .inl ⟨a1, by omega, a3, by rw [a4]; exact ov _ rfl, fun b hb => ?_⟩
        rw [putQ]
        show putQ (overL b o.toNat (x.take p)) q' = _
        rw [a5 _ (by rw [hol b hb]; exact (hol _ rfl).symm), ov b hb]
      · exact .inr ⟨a1, by omega⟩

def afterB (b : List (List Cell)) : Dk := ⟨b, b, [], false, 0, false⟩

theorem crash_up {d : Dk} (h : Up d) (k t : Int) : d.crash k t = afterB d.dur := by
  have e : crashB d k t = d.dur := by
    unfold crashB
    rw [h.q]
    have : keepN k ([] : List (List Cell)).length = 0 := by have := (keepN_of k ([] : List (List Cell)).length).1; simp at this; exact this
    rw [this, if_neg (by simp)]
    rfl
  unfold Dk.crash
  rw [e]
  rfl

/-- a store either ends, or leaves some of its bytes behind when the disk crashes -/
theorem store_cut {d : Dk} (h : Up d) {o : Int} {x : List (List Cell)} (hx : okB x = true) (h0 : 0 ≤ o) (ho : o + x.length ≤ d.dur.length) :
    ((d.store o x).e = 0 ∧ (d.store o x).d.dur = overL d.dur o.toNat x ∧ Up (d.store o x).d) ∨
    ((d.store o x).e = 15 ∧ ∀ k t, ∃ i, i < x.length ∧ (d.store o x).d.crash k t = afterB (overL d.dur o.toNat (x.take i))) := by
  have hle := h.ok.le
  have hkept := store_kept (o := o) h.ok hx (by rw [h.q]; show 0 + x.length ≤ 4000000; omega)
  obtain ⟨q', j, lf, cu, dn, e, h1, h2, h3, h4⟩ := wrF_cut (x.length + 1) d o x h0 (by rw [h.cur]; exact ho) (by omega)
  have hw : d.write o x = ⟨⟨d.dur, cu, d.q ++ q', d.arm, lf, dn⟩, e⟩ := by
    unfold Dk.write
    rw [if_neg (by rw [chk_mk h.down h0 (by omega) (by rw [h.cur]; omega)]; simp), h1]
  rw [h.q, List.nil_append] at hw
  rcases h4 with ⟨a1, a2, a3, a4, a5⟩ | ⟨a1, a2⟩
  · left
    have hs : d.store o x = ⟨⟨overL d.dur o.toNat x, overL d.dur o.toNat x, [], d.arm, lf, d.down⟩, 0⟩ := by
      unfold Dk.store
      rw [hw, a1, if_pos rfl]
      unfold Dk.sync
      rw [if_neg (by show ¬ dn = true; rw [a3, h.down]; simp)]
      dsimp only
      rw [a5 d.dur (by rw [h.cur]), a4, h.cur, a3]
    rw [hs] at hkept ⊢
    exact ⟨rfl, rfl, ⟨hkept.ok, h.down, rfl, rfl⟩⟩
  · right
    have hs : d.store o x = ⟨⟨d.dur, cu, q', d.arm, lf, dn⟩, 15⟩ := by
      unfold Dk.store
      rw [hw, a1, if_neg (by simp)]
    rw [hs]
    refine ⟨rfl, fun k t => ?_⟩
    have htl : (x.take j).length = j := by rw [List.length_take]; omega
    obtain ⟨i, hi, ec⟩ := crash_pcs (keepN k q'.length) t q' o (x.take j) d.dur h2 h0 (by rw [htl]; omega)
    refine ⟨i, by omega, ?_⟩
    have e2 : crashB ⟨d.dur, cu, q', d.arm, lf, dn⟩ k t = overL d.dur o.toNat (x.take i) := by
      rw [List.take_take, show min i j = i by omega] at ec
      exact ec
    unfold Dk.crash
    rw [e2]
    rfl

theorem afterB_good {d : Dk} (h : DkOk d) {b : List (List Cell)} (hl : b.length = d.dur.length) (hb : okB b = true) : Good (afterB b) :=
  ⟨⟨rfl, by show 32 ≤ b.length; rw [hl]; exact h.pos, by show b.length ≤ 65536; rw [hl]; exact h.le, by show b.length % 32 = 0; rw [hl]; exact h.sec, (fun r hr => by cases hr), by show 0 ≤ 4000000; omega, ⟨by show (0 : Int) ≤ 0; omega, by show (0 : Int) ≤ _; omega⟩, hb, hb⟩, rfl, rfl, rfl, rfl⟩

/-- a record of which the end is missing is none -/
theorem recB_cut {g o : Int} {x : List (List Cell)} (n : Nat) {i : Nat} (h1 : 1 ≤ x.length) (h2 : x.length ≤ 30000) (hi : i < x.length + 10) : (recB g o ((wEnc g o x).take i ++ Z n)).2 = false := by
  have hwl := wEnc_len g o x
  have htl : ((wEnc g o x).take i).length = i := by rw [List.length_take]; omega
  generalize hb : (wEnc g o x).take i ++ Z n = b
  have hl : b.length = i + n := by rw [← hb, List.length_append, htl, List.length_replicate]
  unfold recB
  split
  · rfl
  · rename_i c1
    split
    · rfl
    · rename_i c2
      have key : nr (Abs.rowAt b (9 + (wNum b 1 5).toNat)) 0 ≠ 255 := by
        by_cases c3 : i ≤ 9 + (wNum b 1 5).toNat
        · have hlt : 9 + (wNum b 1 5).toNat < i + n := by omega
          generalize 9 + (wNum b 1 5).toNat = a at c3 hlt
          have e : Abs.rowAt b a = Abs.rowAt (Z n) (a - i) := by
            rw [← hb, row_app_right (by omega) (by rw [htl, List.length_replicate]; omega), htl]
          rw [e, List.eq_of_mem_replicate (rowAt_mem (x := Z n) (by rw [List.length_replicate]; omega))]
          decide
        · exfalso
          have b1 := bigF_len 4 (x.length : Int)
          have e0 : wEnc g o x = ([Cell.int .u8 229] :: bigF 4 x.length) ++ (x ++ (bigF 4 (wSum g o x) ++ [[.int .u8 255]])) := rfl
          have l1 : ([Cell.int .u8 229] :: bigF 4 x.length).length = 5 := by rw [List.length_cons, b1]
          have e1 : b = [[Cell.int .u8 229]] ++ (bigF 4 x.length ++ ((x ++ (bigF 4 (wSum g o x) ++ [[Cell.int .u8 255]])).take (i - 5) ++ Z n)) := by
            rw [← hb, e0, List.take_append, List.take_of_length_le (by omega), l1]
            simp
          have e2 : wNum b 1 5 = x.length := by
            unfold wNum
            rw [e1, sub_at [[Cell.int .u8 229]] (bigF 4 x.length) _ (i := 1) (j := 5) rfl (by rw [b1]; rfl), numF_big 4 0 _ (by omega) (by rw [show (256 : Int) ^ 4 = 4294967296 by decide]; omega)]
            omega
          omega
      show (_ && _) = false
      rw [decide_eq_false key, Bool.and_false]

theorem recB_z {g o : Int} {b : List (List Cell)} {k : Nat} (hk : 1 ≤ k) : (recB g o (Z k ++ b)).2 = false := by
  unfold recB
  rw [if_pos]
  right
  cases k with
  | zero => omega
  | succ k =>
    show (0 : Int) ≠ 229
    decide

/- Plain law: what a log has after a fall. -/

theorem okB_parts {a b : List (List Cell)} (h : okB (a ++ b) = true) : okB a = true ∧ okB b = true := by
  unfold okB at h ⊢
  rw [List.all_append, Bool.and_eq_true] at h
  exact h
theorem over_zero {n : Nat} {y : List (List Cell)} : overL (Z n) 0 y = y ++ Z (n - y.length) := by
  rw [overL_eq, List.drop_replicate]
  simp

/-- a log in the first half; behind it bytes that are no record -/
structure FA (d : Dk) (rs : List (List Cell)) : Prop where
  up : Up d
  len : d.dur.length = 768
  E : recsE rs = 0
  b : ∀ r ∈ rs, okB (nl r 0) = true
  ex : ∃ R T, d.dur = wHdr 1 ++ (encW 1 0 rs ++ (R ++ T)) ∧ recsN rs + R.length = 352 ∧ wGen (T.take 32) = 0 ∧ (recB 1 (recsN rs) R).2 = false
/-- a log in the second half -/
structure FB (d : Dk) (rs : List (List Cell)) : Prop where
  up : Up d
  len : d.dur.length = 768
  E : recsE rs = 0
  b : ∀ r ∈ rs, okB (nl r 0) = true
  ex : ∃ A m, d.dur = A ++ (wHdr 2 ++ (encW 2 0 rs ++ Z m)) ∧ A.length = 384 ∧ wGen (A.take 32) = 1 ∧ recsN rs + m = 352
def Fall (d : Dk) (rs : List (List Cell)) : Prop := FA d rs ∨ FB d rs

theorem half768 {d : Dk} (h : d.dur.length = 768) : d.half = 384 := by unfold Dk.half; rw [h]; rfl
theorem afterB_up {d : Dk} (h : Up d) {b : List (List Cell)} (hl : b.length = d.dur.length) (hb : okB b = true) : Up (afterB b) := (afterB_good h.ok hl hb).up

theorem Fall.len {d : Dk} {rs : List (List Cell)} (h : Fall d rs) : d.dur.length = 768 := h.elim FA.len FB.len
theorem Fall.up {d : Dk} {rs : List (List Cell)} (h : Fall d rs) : Up d := h.elim FA.up FB.up
theorem Fall.okDk {d : Dk} {rs : List (List Cell)} (h : Fall d rs) : okDk 768 768 d = true := okDk_mk h.len.symm (by rw [h.up.cur]; exact h.len.symm) h.up.ok

/-- only the bytes matter -/
theorem Fall.of {d c : Dk} {rs : List (List Cell)} (h : Fall d rs) (u : Up c) (e : c.dur = d.dur) : Fall c rs := by
  rcases h with h | h
  · exact .inl ⟨u, by rw [e]; exact h.len, h.E, h.b, by rw [e]; exact h.ex⟩
  · exact .inr ⟨u, by rw [e]; exact h.len, h.E, h.b, by rw [e]; exact h.ex⟩
theorem Fall.crash {d : Dk} {rs : List (List Cell)} (h : Fall d rs) (k t : Int) : Fall (d.crash k t) rs := by
  rw [crash_up h.up]
  exact h.of (afterB_up h.up rfl h.up.ok.bd) rfl

theorem fail_up {d : Dk} (h : Up d) {n : Int} (hn : n ≤ 9223372036854775807) : Up (d.fail n) ∧ (d.fail n).dur = d.dur := by
  have hk := fail_kept h.ok n hn
  have e : d.fail n = ⟨d.dur, d.cur, d.q, true, (if n < 0 then 0 else n), d.down⟩ := by
    unfold Dk.fail
    rw [if_neg (by rw [h.down]; simp)]
  rw [e] at hk ⊢
  exact ⟨⟨hk.ok, h.down, h.q, h.cur⟩, rfl⟩

theorem up_open0 {d : Dk} (hg : Up d) (h128 : 128 ≤ d.dur.length) {y : List (List Cell)} (hd : d.dur = wHdr 1 ++ y) (h1 : d.gen 1 = 0) : openM d = openT d 0 1 (subL y 0 (d.half - 32).toNat) := by
  have hh := half_of hg.ok
  have h64 := hh.2.2.2 h128
  have g0 : d.gen 0 = 1 := by
    unfold Dk.gen
    rw [hg.cur, hd, Int.zero_mul]
    have := sub_at [] (wHdr 1) y (i := (0 : Int).toNat) (j := ((0 : Int) + 32).toNat) rfl (by rw [wHdr_len]; rfl)
    rw [List.nil_append] at this
    rw [this, wGen_hdr (by omega) (by omega)]
  have a0 : d.area 0 = subL y 0 (d.half - 32).toNat := by
    unfold Dk.area
    rw [hg.cur, hd, sub_app _ _ (wHdr_len 1).symm (by omega)]
    have e1 : (0 * d.half + 32).toNat - 32 = 0 := by omega
    have e2 : ((0 + 1) * d.half).toNat - 32 = (d.half - 32).toNat := by omega
    rw [e1, e2]
  unfold openM
  rw [if_neg (by omega), if_neg (by rw [hg.down]; simp), if_neg (by omega), if_neg (by omega), g0, a0]

theorem live_of {d : Dk} {rs : List (List Cell)} {a g : Int} (h : Up d) (ha : d.arm = false) (hl : d.dur.length = 768) (hE : recsE rs = 0) (hb : ∀ r ∈ rs, okB (nl r 0) = true) (hn : recsN rs ≤ 352) (haa : 0 ≤ a ∧ a ≤ 1) (hg : 0 ≤ g ∧ g < 18446744073709551616) : Live d ⟨a, g, cloneR rs, recsN rs, false⟩ := by
  have hh := half768 hl
  have hnn := recsN_nn rs
  refine ⟨h.good ha, ⟨haa, hg, by rw [hh]; omega, ?_, ?_⟩, rfl, (recsN_clone rs).symm, clone_okB hb, ?_⟩
  · rw [hh]
    show 0 ≤ recsN rs ∧ recsN rs ≤ 384 - 32
    omega
  · show ((cloneR rs).length : Int) ≤ recsN rs
    rw [cloneR_len]; exact hnn.2
  · show recsE (cloneR rs) = 0
    rw [recsE_clone]; exact hE

theorem fa_open {d : Dk} {rs : List (List Cell)} (h : FA d rs) :
    ((openM d).e = 0 ∧ (openM d).l = ⟨0, 1, cloneR rs, recsN rs, false⟩ ∧ FA (openM d).d rs ∧ (d.arm = false → (openM d).d.arm = false)) ∨
    ((openM d).e = 15 ∧ d.arm = true ∧ okDk 768 768 (openM d).d = true ∧ ∀ k t, FA ((openM d).d.crash k t) rs) := by
  obtain ⟨R, T, hd, hR, hT, hbad⟩ := h.ex
  have hh := half768 h.len
  have hel := encW_len 1 rs 0
  have hnn := recsN_nn rs
  have hlen := congrArg List.length hd
  simp only [List.length_append, wHdr_len] at hlen
  have hl := h.len
  have g1 : d.gen 1 = 0 := by
    unfold Dk.gen
    rw [h.up.cur, hh]
    have e : d.dur = (wHdr 1 ++ (encW 1 0 rs ++ R)) ++ T := by rw [hd]; simp
    rw [e, sub_app _ _ (k := 384) (by simp only [List.length_append, wHdr_len]; omega) (by omega), subL_eq]
    exact hT
  have hop := up_open0 h.up (by omega) hd g1
  rw [hh] at hop
  have har : subL (encW 1 0 rs ++ (R ++ T)) 0 (384 - 32 : Int).toNat = encW 1 0 rs ++ R := by
    rw [subL_eq, ← List.append_assoc, List.take_append_of_le_length (by rw [List.length_append]; omega), List.take_of_length_le (by rw [List.length_append]; omega)]
    rfl
  rw [har] at hop
  have hbd := h.up.ok.bd
  rw [hd] at hbd
  have hRb := (okB_parts (okB_parts (okB_parts hbd).2).2).1
  have hTb := (okB_parts (okB_parts (okB_parts hbd).2).2).2
  have heb : okB (encW 1 0 rs) = true := encW_okB _ _ _ h.b
  have hsc := scan_enc0 (g := 1) h.E h.b hRb hbad
  have hdr : (encW 1 0 rs ++ R).drop (recsN rs).toNat = R := by
    rw [List.drop_append, List.drop_eq_nil_of_le (by omega), List.nil_append, show (recsN rs).toNat - (encW 1 0 rs).length = 0 by omega]; rfl
  unfold openT at hop
  rw [hsc] at hop
  dsimp only at hop
  rw [hdr] at hop
  by_cases hz : zeroB R = true
  · rw [if_pos hz] at hop
    rw [hop]
    exact .inl ⟨rfl, rfl, h, fun ha => ha⟩
  rw [if_neg hz, hh] at hop
  -- what is left behind when the tail is zeroed
  have hzl : (zeros (((encW 1 0 rs ++ R).length : Int) - recsN rs)).length = R.length := by rw [zeros_len, List.length_append]; omega
  have ov : ∀ i, i ≤ R.length → overL d.dur (0 * 384 + 32 + recsN rs).toNat ((zeros (((encW 1 0 rs ++ R).length : Int) - recsN rs)).take i) = wHdr 1 ++ (encW 1 0 rs ++ ((Z i ++ R.drop i) ++ T)) := by
    intro i hi
    have e1 : (zeros (((encW 1 0 rs ++ R).length : Int) - recsN rs)).take i = Z i := by
      unfold zeros
      rw [List.take_replicate, Nat.min_eq_left (by rw [List.length_append]; omega)]
    have e2 : d.dur = (wHdr 1 ++ encW 1 0 rs) ++ (R ++ T) := by rw [hd]; simp
    have e3 : (0 * 384 + 32 + recsN rs : Int).toNat = (wHdr 1 ++ encW 1 0 rs).length := by rw [List.length_append, wHdr_len]; omega
    rw [e1, e2, e3, over_app_right (Nat.le_refl _), Nat.sub_self, over_app_left (by rw [List.length_replicate]; omega), overL_eq]
    simp
  have fa : ∀ (i : Nat) (c : Dk), i ≤ R.length → Up c → c.dur = overL d.dur (0 * 384 + 32 + recsN rs).toNat ((zeros (((encW 1 0 rs ++ R).length : Int) - recsN rs)).take i) → FA c rs := by
    intro i c hi u e
    rw [ov i hi] at e
    refine ⟨u, ?_, h.E, h.b, Z i ++ R.drop i, T, e, ?_, hT, ?_⟩
    · rw [e]
      simp only [List.length_append, wHdr_len, List.length_replicate, List.length_drop]
      omega
    · simp only [List.length_append, List.length_replicate, List.length_drop]
      omega
    · cases i with
      | zero => simpa using hbad
      | succ i => exact recB_z (by omega)
  have hzb : okB (zeros (((encW 1 0 rs ++ R).length : Int) - recsN rs)) = true := zeros_okB _
  have htk : (zeros (((encW 1 0 rs ++ R).length : Int) - recsN rs)).take R.length = zeros (((encW 1 0 rs ++ R).length : Int) - recsN rs) := List.take_of_length_le (by omega)
  rcases store_cut h.up (o := 0 * 384 + 32 + recsN rs) hzb (by omega) (by rw [hzl]; omega) with ⟨s1, s2, s3⟩ | ⟨s1, s2⟩
  · left
    rw [hop]
    refine ⟨s1, rfl, fa R.length _ (Nat.le_refl _) s3 (by rw [htk]; exact s2), fun ha => ?_⟩
    rw [store_good (h.up.good ha) (o := 0 * 384 + 32 + recsN rs) (by omega) (by rw [hzl]; omega)]
    rfl
  · right
    rw [hop]
    have hk := store_kept (o := 0 * 384 + 32 + recsN rs) h.up.ok hzb (by rw [h.up.q, hzl]; show 0 + R.length ≤ 4000000; omega)
    refine ⟨s1, ?_, okDk_mk (by rw [hk.len]; exact hl.symm) (by rw [hk.ok.cd, hk.len]; exact hl.symm) hk.ok, fun k t => ?_⟩
    · cases ha : d.arm with
      | true => rfl
      | false =>
        rw [store_good (h.up.good ha) (o := 0 * 384 + 32 + recsN rs) (by omega) (by rw [hzl]; omega)] at s1
        cases s1
    · obtain ⟨i, hi, e⟩ := s2 k t
      have hov := ov i (by omega)
      rw [hzl] at hi
      rw [e]
      refine fa i _ (by omega) (afterB_up h.up ?_ (okB_over h.up.ok.bd (okB_take hzb _) _)) rfl
      exact overL_len (by rw [List.length_take, hzl]; omega)

theorem fb_open {d : Dk} {rs : List (List Cell)} (h : FB d rs) : openM d = ⟨d, ⟨1, 2, cloneR rs, recsN rs, false⟩, 0⟩ := by
  obtain ⟨A, m, hd, hA, hg0, hm⟩ := h.ex
  have hh := half768 h.len
  have hl := h.len
  have hel := encW_len 2 rs 0
  have hnn := recsN_nn rs
  have g0 : d.gen 0 = 1 := by
    unfold Dk.gen
    rw [h.up.cur, hh, hd, subL_eq]
    have e : ((A ++ (wHdr 2 ++ (encW 2 0 rs ++ Z m))).take (0 * 384 + 32 : Int).toNat).drop (0 * 384 : Int).toNat = A.take 32 := by
      rw [List.take_append_of_le_length (by omega)]; rfl
    rw [e]; exact hg0
  have g1 : d.gen 1 = 2 := by
    unfold Dk.gen
    rw [h.up.cur, hh, hd, sub_at A (wHdr 2) _ (i := (1 * 384 : Int).toNat) (j := (1 * 384 + 32 : Int).toNat) (by omega) (by rw [wHdr_len]; omega), wGen_hdr (by omega) (by omega)]
  have a1 : d.area 1 = encW 2 0 rs ++ Z m := by
    unfold Dk.area
    rw [h.up.cur, hh, hd]
    have e : A ++ (wHdr 2 ++ (encW 2 0 rs ++ Z m)) = (A ++ wHdr 2) ++ ((encW 2 0 rs ++ Z m) ++ []) := by simp
    rw [e]
    exact sub_at _ _ _ (by rw [List.length_append, wHdr_len]; omega) (by simp only [List.length_append, wHdr_len, List.length_replicate]; omega)
  unfold openM
  rw [if_neg (by omega), if_neg (by rw [h.up.down]; simp), if_neg (by omega), if_pos (by omega), g1, a1]
  unfold openT
  rw [scan_enc0 h.E h.b (okB_rep _) (by rw [recB_zero]), if_pos]
  show zeroB ((encW 2 0 rs ++ Z m).drop (recsN rs).toNat) = true
  rw [List.drop_append, List.drop_eq_nil_of_le (by omega), List.nil_append, List.drop_replicate]
  exact zeroB_zero _

/-- opening, with a failure and a crash -/
theorem fall_step {d : Dk} {rs : List (List Cell)} (h : Fall d rs) : okDk 768 768 (openM d).d = true ∧ ∀ k t, Fall ((openM d).d.crash k t) rs := by
  rcases h with h | h
  · rcases fa_open h with ⟨-, -, a3, -⟩ | ⟨-, -, a2, a3⟩
    · exact ⟨Fall.okDk (.inl a3), fun k t => Fall.crash (.inl a3) k t⟩
    · exact ⟨a2, fun k t => .inl (a3 k t)⟩
  · rw [fb_open h]
    exact ⟨Fall.okDk (.inr h), fun k t => Fall.crash (.inr h) k t⟩
/-- opening, at the end -/
theorem fall_open {d : Dk} {rs : List (List Cell)} (h : Fall d rs) (ha : d.arm = false) : (openM d).e = 0 ∧ (openM d).l.recs = cloneR rs ∧ Live (openM d).d (openM d).l ∧ Fall (openM d).d rs ∧ (openM d).d.arm = false ∧ (openM d).l.fin = recsN rs := by
  rcases h with h | h
  · have hn : recsN rs ≤ 352 := by
      obtain ⟨R, T, -, hR, -⟩ := h.ex
      omega
    rcases fa_open h with ⟨a1, a2, a3, a4⟩ | ⟨-, a1, -⟩
    · refine ⟨a1, by rw [a2], ?_, .inl a3, a4 ha, by rw [a2]⟩
      rw [a2]
      exact live_of a3.up (a4 ha) a3.len h.E h.b hn (by omega) (by omega)
    · rw [ha] at a1; cases a1
  · have hn : recsN rs ≤ 352 := by
      obtain ⟨A, m, -, -, -, hm⟩ := h.ex
      omega
    rw [fb_open h]
    exact ⟨rfl, rfl, live_of h.up ha h.len h.E h.b hn (by omega) (by omega), .inr h, ha, rfl⟩

/- Plain law: an append, a replacement that fails somewhere. -/

theorem over_inv {d : Dk} {l : Lg} (h : Inv d l) (hl : d.dur.length = 768) {y : List (List Cell)} (hy : (y.length : Int) ≤ 352 - l.fin) :
    overL d.dur (0 * 384 + 32 + l.fin).toNat y = wHdr 1 ++ (encW 1 0 l.recs ++ ((y ++ Z (352 - l.fin.toNat - y.length)) ++ Z 384)) := by
  have hel := encW_len 1 l.recs 0
  have hfn := h.live.fin
  have hfin := h.live.lg.fin
  have hz : Z (d.dur.length - 32 - l.fin.toNat) = Z (352 - l.fin.toNat) ++ Z 384 := by
    rw [List.replicate_append_replicate, show 352 - l.fin.toNat + 384 = d.dur.length - 32 - l.fin.toNat by omega]
  have e2 : d.dur = (wHdr 1 ++ encW 1 0 l.recs) ++ (Z (352 - l.fin.toNat) ++ Z 384) := by
    conv => lhs; rw [h.dur, hz]
    simp
  have e3 : (0 * 384 + 32 + l.fin : Int).toNat = (wHdr 1 ++ encW 1 0 l.recs).length := by rw [List.length_append, wHdr_len]; omega
  rw [e2, e3, over_app_right (Nat.le_refl _), Nat.sub_self, over_app_left (by rw [List.length_replicate]; omega), over_zero]
  simp
theorem gen_z {n : Nat} {b : List (List Cell)} (h : 32 ≤ n) : wGen ((Z n ++ b).take 32) = 0 := by
  rw [List.take_append_of_le_length (by rw [List.length_replicate]; exact h), List.take_replicate, Nat.min_eq_left h]
  exact wGen_zero (by omega)

theorem fall_app {d : Dk} {l : Lg} {n : Int} (hI : Inv d l) (hn : n ≤ 9223372036854775807) (hl : d.dur.length = 768) {x : List (List Cell)} (hx : okB x = true) (hE : recE x = 0) (hf : (x.length : Int) + 10 ≤ 352 - l.fin) :
    okDk 768 768 (appM (d.fail n) l x).d = true ∧
    (((appM (d.fail n) l x).e = 0 ∧ ∀ k t, Fall ((appM (d.fail n) l x).d.crash k t) (l.recs ++ [wRow x])) ∨ ((appM (d.fail n) l x).e = 15 ∧ ∀ k t, Fall ((appM (d.fail n) l x).d.crash k t) l.recs)) := by
  obtain ⟨u, ud⟩ := fail_up hI.live.good.up hn
  generalize d.fail n = c at *
  have hcl : c.dur.length = 768 := by rw [ud]; exact hl
  have hh := half768 hcl
  have hwl := wEnc_len 1 l.fin x
  have hwb := wEnc_okB 1 l.fin hx
  have hfn := hI.live.fin
  have hfin := hI.live.lg.fin
  have hx1 := recE_of hE
  have hEr := hI.live.recsE
  have hap : appM c l x = if (c.store (0 * 384 + 32 + l.fin) (wEnc 1 l.fin x)).e = 0 then ⟨(c.store (0 * 384 + 32 + l.fin) (wEnc 1 l.fin x)).d, ⟨l.act, l.gen, l.recs ++ [wRow x], l.fin + x.length + 10, false⟩, 0⟩
      else ⟨(c.store (0 * 384 + 32 + l.fin) (wEnc 1 l.fin x)).d, ⟨l.act, l.gen, l.recs, l.fin, true⟩, (c.store (0 * 384 + 32 + l.fin) (wEnc 1 l.fin x)).e⟩ := by
    unfold appM
    rw [if_neg (by rw [hI.live.failed]; simp), if_neg (by simp [hE]), if_neg (by unfold Lg.free; rw [hh]; omega), hh, hI.act, hI.gen]
  have hk := store_kept (o := 0 * 384 + 32 + l.fin) u.ok hwb (by rw [u.q, hwl]; show 0 + (x.length + 10) ≤ 4000000; omega)
  have hok : okDk 768 768 (c.store (0 * 384 + 32 + l.fin) (wEnc 1 l.fin x)).d = true := okDk_mk (by rw [hk.len]; exact hcl.symm) (by rw [hk.ok.cd, hk.len]; exact hcl.symm) hk.ok
  have henc : encW 1 0 (l.recs ++ [wRow x]) = encW 1 0 l.recs ++ wEnc 1 l.fin x := by
    rw [encW_app, Int.zero_add, ← hfn]
    simp [encW, nl_wRow]
  rcases store_cut u (o := 0 * 384 + 32 + l.fin) hwb (by omega) (by rw [hwl]; omega) with ⟨s1, s2, s3⟩ | ⟨s1, s2⟩
  · rw [if_pos s1] at hap
    rw [hap]
    refine ⟨hok, .inl ⟨rfl, fun k t => Fall.crash (.inl ⟨s3, ?_, ?_, ?_, Z (352 - l.fin.toNat - (x.length + 10)), Z 384, ?_, ?_, gen_z (b := []) (n := 384) (by omega) |> fun h => by rwa [List.append_nil] at h, ?_⟩) k t⟩⟩
    · rw [hk.len]; exact hcl
    · rw [recsE_app hEr]; simp [recsE, nl_wRow, hE]
    · intro r hr
      rcases List.mem_append.mp hr with hr | hr
      · exact hI.live.recs r hr
      · rw [List.mem_singleton.mp hr]; exact hx
    · rw [s2, ud, over_inv hI hl (by rw [hwl]; omega), henc, hwl]
      simp
    · rw [recsN_app, ← hfn, List.length_replicate]
      simp only [recsN, nl_wRow]
      omega
    · rw [recB_zero]
  · rw [if_neg (by rw [s1]; simp)] at hap
    rw [hap]
    refine ⟨hok, .inr ⟨s1, fun k t => ?_⟩⟩
    obtain ⟨i, hi, e⟩ := s2 k t
    have htl : ((wEnc 1 l.fin x).take i).length = i := by rw [List.length_take]; omega
    rw [e]
    refine .inl ⟨afterB_up u (overL_len (by rw [htl]; omega)) (okB_over u.ok.bd (okB_take hwb _) _), ?_, hEr, hI.live.recs, (wEnc 1 l.fin x).take i ++ Z (352 - l.fin.toNat - i), Z 384, ?_, ?_, gen_z (b := []) (n := 384) (by omega) |> fun h => by rwa [List.append_nil] at h, ?_⟩
    · show (overL c.dur _ _).length = 768
      rw [overL_len (by rw [htl]; omega)]; exact hcl
    · show overL c.dur _ _ = _
      rw [ud, over_inv hI hl (by rw [htl]; omega), htl]
    · rw [List.length_append, htl, List.length_replicate, ← hfn]; omega
    · rw [← hfn]
      exact recB_cut _ hx1.1 hx1.2 (by omega)

/-- a header is written whole, or not at all -/
theorem hdr_cut {c : Dk} (u : Up c) (hl : c.dur.length = 768) (g : Int) :
    ((c.store 384 (wHdr g)).e = 0 ∧ (c.store 384 (wHdr g)).d.dur = overL c.dur 384 (wHdr g) ∧ Up (c.store 384 (wHdr g)).d) ∨
    ((c.store 384 (wHdr g)).e = 15 ∧ ∀ k t, (c.store 384 (wHdr g)).d.crash k t = afterB c.dur) := by
  have hwl := wHdr_len g
  have hdc : c.cur.length = 768 := by rw [u.cur]; exact hl
  by_cases hf : c.arm = true ∧ c.left = 0
  · right
    rw [store_armed u.ok hf.1 hf.2 u.down (o := 384) (by omega) (by rw [hwl]; omega) (by omega)]
    refine ⟨rfl, fun k t => ?_⟩
    have e : crashB ⟨c.dur, c.cur, c.q, c.arm, c.left, true⟩ k t = c.dur := by
      unfold crashB
      dsimp only
      rw [u.q]
      have : keepN k ([] : List (List Cell)).length = 0 := by have := (keepN_of k ([] : List (List Cell)).length).1; simp at this; exact this
      rw [this, if_neg (by simp)]
      rfl
    unfold Dk.crash
    rw [e]
    rfl
  · left
    have hw : (c.write 384 (wHdr g)).e = 0 := by
      unfold Dk.write
      rw [if_neg (by rw [chk_mk u.down (by omega) (by omega) (by rw [hwl]; omega)]; simp), hwl, wrF, if_neg (by omega), if_neg hf]
      have hp : pcN 384 (wHdr g).length = 32 := by rw [hwl]; decide
      rw [hp, List.drop_eq_nil_of_le (by omega), wrF_zero]
    rcases store_cut u (o := 384) (wHdr_okB g) (by omega) (by rw [hwl]; omega) with s | ⟨s1, s2⟩
    · exact s
    · exfalso
      unfold Dk.store at s1
      rw [if_pos hw] at s1
      obtain ⟨q', j, lf, cu, dn, e, h1, h2, h3, h4⟩ := wrF_cut ((wHdr g).length + 1) c 384 (wHdr g) (by omega) (by rw [hwl]; omega) (by omega)
      have hww : c.write 384 (wHdr g) = ⟨⟨c.dur, cu, c.q ++ q', c.arm, lf, dn⟩, e⟩ := by
        unfold Dk.write
        rw [if_neg (by rw [chk_mk u.down (by omega) (by omega) (by rw [hwl]; omega)]; simp), h1]
      rw [hww] at hw s1
      have hw : e = 0 := hw
      rcases h4 with ⟨-, -, a3, -⟩ | ⟨a1, -⟩
      · unfold Dk.sync at s1
        rw [if_neg (by show ¬ dn = true; rw [a3, u.down]; simp)] at s1
        cases s1
      · omega

theorem fall_rep {d : Dk} {l : Lg} {n : Int} (hI : Inv d l) (hn : n ≤ 9223372036854775807) (hl : d.dur.length = 768) {rs : List (List Cell)} (hb : ∀ r ∈ rs, okB (nl r 0) = true) (hE : recsE rs = 0) (hf : recsN rs ≤ 352) :
    okDk 768 768 (repM (d.fail n) l rs).d = true ∧
    (((repM (d.fail n) l rs).e = 0 ∧ ∀ k t, Fall ((repM (d.fail n) l rs).d.crash k t) rs) ∨ ((repM (d.fail n) l rs).e = 15 ∧ ∀ k t, Fall ((repM (d.fail n) l rs).d.crash k t) l.recs)) := by
  obtain ⟨u, ud⟩ := fail_up hI.live.good.up hn
  generalize d.fail n = c at *
  have hcl : c.dur.length = 768 := by rw [ud]; exact hl
  have hh := half768 hcl
  have hfn := hI.live.fin
  have hfin := hI.live.lg.fin
  have hhd := half768 hl
  have hnn := recsN_nn rs
  have hel := encW_len 1 l.recs 0
  have hel2 := encW_len 2 rs 0
  have hB : repB c l rs = encW 2 0 rs ++ Z (352 - recsN rs).toNat := by
    unfold repB
    rw [hh, hI.gen]
    rfl
  have hBl : (repB c l rs).length = 352 := by rw [hB, List.length_append, List.length_replicate]; omega
  have hBb : okB (repB c l rs) = true := by rw [hB]; exact okB_app (encW_okB _ _ _ hb) (okB_rep _)
  have hD : repD c l rs = c.store 416 (repB c l rs) := by
    unfold repD
    rw [hh, hI.act]
    rfl
  have hH : repH c l rs = (repD c l rs).d.store 384 (wHdr 2) := by
    unfold repH
    rw [hh, hI.act, hI.gen]
    rfl
  -- the bytes
  have hz : Z (d.dur.length - 32 - l.fin.toNat) = Z (352 - l.fin.toNat) ++ (Z 32 ++ Z 352) := by
    rw [List.replicate_append_replicate, List.replicate_append_replicate, show 352 - l.fin.toNat + (32 + 352) = d.dur.length - 32 - l.fin.toNat by omega]
  have hd : c.dur = wHdr 1 ++ (encW 1 0 l.recs ++ (Z (352 - l.fin.toNat) ++ (Z 32 ++ Z 352))) := by rw [ud, ← hz]; exact hI.dur
  generalize hA : wHdr 1 ++ (encW 1 0 l.recs ++ Z (352 - l.fin.toNat)) = A
  have hAl : A.length = 384 := by
    rw [← hA]
    simp only [List.length_append, wHdr_len, List.length_replicate]
    omega
  have hdA : c.dur = A ++ (Z 32 ++ Z 352) := by rw [hd, ← hA]; simp only [List.append_assoc]
  have hA0 : wGen (A.take 32) = 1 := by
    rw [← hA, List.take_append_of_le_length (by rw [wHdr_len]; omega), List.take_of_length_le (by rw [wHdr_len]; omega), wGen_hdr (by omega) (by omega)]
  have ov : ∀ y : List (List Cell), y.length ≤ 352 → overL c.dur (416 : Int).toNat y = A ++ (Z 32 ++ (y ++ Z (352 - y.length))) := by
    intro y hy
    have e1 : A ++ (Z 32 ++ Z 352) = (A ++ Z 32) ++ Z 352 := by rw [List.append_assoc]
    have e2 : (416 : Int).toNat = (A ++ Z 32).length := by rw [List.length_append, hAl, List.length_replicate]; rfl
    rw [hdA, e1, e2, over_app_right (Nat.le_refl _), Nat.sub_self, over_zero]
    simp
  have old : ∀ (b : Dk) (w : List (List Cell)), Up b → b.dur = A ++ (Z 32 ++ w) → w.length = 352 → FA b l.recs := by
    intro b w hu e hw
    refine ⟨hu, ?_, hI.live.recsE, hI.live.recs, Z (352 - l.fin.toNat), Z 32 ++ w, ?_, ?_, gen_z (by omega), by rw [recB_zero]⟩
    · rw [e]; simp only [List.length_append, List.length_replicate, hAl, hw]
    · rw [e, ← hA]; simp
    · rw [List.length_replicate, ← hfn]; omega
  have hkD := store_kept (o := 416) u.ok hBb (by rw [u.q, hBl]; show 0 + 352 ≤ 4000000; omega)
  have okD : okDk 768 768 (repD c l rs).d = true := by
    rw [hD]
    exact okDk_mk (by rw [hkD.len]; exact hcl.symm) (by rw [hkD.ok.cd, hkD.len]; exact hcl.symm) hkD.ok
  have hr : repM c l rs = if (repD c l rs).e ≠ 0 then ⟨(repD c l rs).d, ⟨l.act, l.gen, l.recs, l.fin, true⟩, (repD c l rs).e⟩
      else if (repH c l rs).e ≠ 0 then ⟨(repH c l rs).d, ⟨l.act, l.gen, l.recs, l.fin, true⟩, (repH c l rs).e⟩
      else ⟨(repH c l rs).d, ⟨1 - l.act, l.gen + 1, cloneR rs, recsN rs, false⟩, 0⟩ := by
    unfold repM
    rw [if_neg (by rw [hI.live.failed]; simp), if_neg (by simp [hE]), if_neg (by rw [hh, hI.gen]; omega)]
  rcases store_cut u (o := 416) hBb (by omega) (by rw [hBl]; omega) with ⟨s1, s2, s3⟩ | ⟨s1, s2⟩
  · rw [← hD] at s1 s2 s3
    rw [if_neg (by rw [s1]; simp)] at hr
    have hd2 : (repD c l rs).d.dur = A ++ (Z 32 ++ repB c l rs) := by rw [s2, ov _ (by omega), hBl, Nat.sub_self]; show A ++ (Z 32 ++ (repB c l rs ++ [])) = _; rw [List.append_nil]
    have hl2 : (repD c l rs).d.dur.length = 768 := by rw [hd2]; simp only [List.length_append, List.length_replicate, hAl, hBl]
    rcases hdr_cut s3 hl2 2 with ⟨t1, t2, t3⟩ | ⟨t1, t2⟩
    · rw [← hH] at t1 t2 t3
      rw [if_neg (by rw [t1]; simp)] at hr
      rw [hr]
      have e3 : (repH c l rs).d.dur = A ++ (wHdr 2 ++ (encW 2 0 rs ++ Z (352 - recsN rs).toNat)) := by
        rw [t2, hd2, hB]
        have := over_mid A (Z 32) (encW 2 0 rs ++ Z (352 - recsN rs).toNat) (wHdr 2) (by rw [wHdr_len, List.length_replicate])
        rw [hAl] at this
        exact this
      have fb : FB (repH c l rs).d rs := ⟨t3, by rw [e3]; simp only [List.length_append, List.length_replicate, hAl, wHdr_len]; omega, hE, hb, A, _, e3, hAl, hA0, by omega⟩
      exact ⟨Fall.okDk (.inr fb), .inl ⟨rfl, fun k t => Fall.crash (.inr fb) k t⟩⟩
    · rw [← hH] at t1 t2
      rw [if_pos (by rw [t1]; simp)] at hr
      rw [hr]
      have hkH := store_kept (o := 384) s3.ok (wHdr_okB 2) (by rw [s3.q, wHdr_len]; show 0 + 32 ≤ 4000000; omega)
      rw [← hH] at hkH
      refine ⟨okDk_mk (by rw [hkH.len]; exact hl2.symm) (by rw [hkH.ok.cd, hkH.len]; exact hl2.symm) hkH.ok, .inr ⟨t1, fun k t => ?_⟩⟩
      rw [t2]
      exact .inl (old _ _ (afterB_up s3 rfl s3.ok.bd) hd2 hBl)
  · rw [← hD] at s1 s2
    rw [if_pos (by rw [s1]; simp)] at hr
    rw [hr]
    refine ⟨okD, .inr ⟨s1, fun k t => ?_⟩⟩
    obtain ⟨i, hi, e⟩ := s2 k t
    have htl : ((repB c l rs).take i).length = i := by rw [List.length_take]; omega
    rw [e]
    refine .inl (old _ ((repB c l rs).take i ++ Z (352 - ((repB c l rs).take i).length)) (afterB_up u (overL_len (by rw [htl]; show 416 + i ≤ _; omega)) (okB_over u.ok.bd (okB_take hBb _) _)) (ov _ (by omega)) (by rw [List.length_append, htl, List.length_replicate]; omega))

end Go.Proofs.Ytpafnokcmhlbgaa
