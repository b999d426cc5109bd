/-
  The contracts of the two decoders of updates.
-/
import Derived.Test.YteogaajjkcfeeaaPure2
namespace Go.Proofs.Yteogaajjkcfeeaa
open Go.Abs

theorem rnum2_n {x : List (List Cell)} (hx : okRd x = true) : 0 ≤ (rnum2 x).2.1 ∧ (rnum2 x).2.1 ≤ x.length := by
  by_cases h : (rnum2 x).2.2 = 0
  · have := rnum2_bound (okRd_of hx).1 h
    omega
  · unfold rnum2 at h ⊢
    split
    · simp
    · split
      · simp
      · rename_i h1 h2
        rw [if_neg h1, if_neg h2] at h
        exact absurd h h1

theorem rstep_ok {α : Type} {z : α} {d : List (List Cell) → α × Int × Int} {b : List (List Cell)} {o : Int} (h : (d (b.drop o.toNat)).2.2 = 0) : rstep z d b o 0 = ((d (b.drop o.toNat)).1, o + (d (b.drop o.toNat)).2.1, 0) := by
  unfold rstep
  rw [if_neg (by simp), h]

theorem rstep_e {α : Type} {z : α} {d : List (List Cell) → α × Int × Int} {b : List (List Cell)} {o e : Int} (h : e ≠ 0) : rstep z d b o e = (z, o, e) := by
  unfold rstep
  rw [if_pos h]

theorem rstep_err {α : Type} {z : α} {d : List (List Cell) → α × Int × Int} {b : List (List Cell)} {o : Int} : (rstep z d b o 0).2.2 = (d (b.drop o.toNat)).2.2 := by
  unfold rstep
  rw [if_neg (by simp)]

theorem reff_deff {b : List (List Cell)} {o : Int} (h : okAt b o = true) :
    (deff (b.drop o.toNat)).2.2 = (reff b o 0).2.2 ∧ ((deff (b.drop o.toNat)).2.2 = 0 → reff b o 0 = ((deff (b.drop o.toNat)).1, o + (deff (b.drop o.toNat)).2.1, 0)) := by
  obtain ⟨hb, h0, h1⟩ := okAt_of h
  have hy := okRd_drop hb o.toNat
  have hd : ∀ n : Int, 0 ≤ n → (b.drop o.toNat).drop n.toNat = b.drop (o + n).toNat := by
    intro n hn
    rw [List.drop_drop]
    congr 1
    omega
  generalize b.drop o.toNat = y at hy hd
  have hr1 : rnum b o 0 = if (rnum2 y).2.2 ≠ 0 then (0, o, (rnum2 y).2.2) else ((rnum2 y).1, o + (rnum2 y).2.1, 0) := by
    have := hd 0 (by omega)
    simp only [Int.toNat_zero, List.drop_zero, Int.add_zero] at this
    unfold rnum
    rw [if_neg (by simp), ← this]
  have n1 := rnum2_n hy
  unfold deff reff
  simp only
  generalize rnum2 y = q1 at *
  have n2 := sdec_bound (okRd_drop hy q1.2.1.toNat)
  rw [List.length_drop] at n2
  have d1 := hd q1.2.1 n1.1
  by_cases e1 : q1.2.2 = 0
  rotate_left
  · have r1 : rnum b o 0 = (0, o, q1.2.2) := by rw [hr1, if_pos e1]
    rw [if_pos e1, r1]
    unfold rtext rint
    simp only [rstep_e e1]
    exact ⟨by trivial, fun h => absurd h e1⟩
  have r1 : rnum b o 0 = (q1.1, o + q1.2.1, 0) := by rw [hr1, if_neg (by simpa using e1)]
  rw [if_neg (by simpa using e1), r1]
  simp only
  by_cases e2 : (sdec (y.drop q1.2.1.toNat)).2.2 = 0
  rotate_left
  · rw [if_pos e2]
    have r2 : (rtext b (o + q1.2.1) 0).2.2 = (sdec (y.drop q1.2.1.toNat)).2.2 := by
      unfold rtext
      rw [rstep_err, d1]
    have r2' : (rtext b (o + q1.2.1) 0).2.2 ≠ 0 := by rw [r2]; exact e2
    generalize rtext b (o + q1.2.1) 0 = p2 at *
    unfold rtext rint
    simp only [rstep_e r2']
    exact ⟨r2.symm, fun h => absurd h e2⟩
  rw [if_neg (by simpa using e2)]
  have r2 : rtext b (o + q1.2.1) 0 = ((sdec (y.drop q1.2.1.toNat)).1, o + q1.2.1 + (sdec (y.drop q1.2.1.toNat)).2.1, 0) := by
    unfold rtext
    rw [rstep_ok (by rw [← d1]; exact e2), d1]
  rw [r2]
  simp only
  generalize sdec (y.drop q1.2.1.toNat) = q2 at *
  have n3 := sdec_bound (okRd_drop hy (q1.2.1 + q2.2.1).toNat)
  rw [List.length_drop] at n3
  have d2 := hd (q1.2.1 + q2.2.1) (by omega)
  rw [← Int.add_assoc] at d2
  by_cases e3 : (sdec (y.drop (q1.2.1 + q2.2.1).toNat)).2.2 = 0
  rotate_left
  · rw [if_pos e3]
    have r3 : (rtext b (o + q1.2.1 + q2.2.1) 0).2.2 = (sdec (y.drop (q1.2.1 + q2.2.1).toNat)).2.2 := by
      unfold rtext
      rw [rstep_err, d2]
    have r3' : (rtext b (o + q1.2.1 + q2.2.1) 0).2.2 ≠ 0 := by rw [r3]; exact e3
    generalize rtext b (o + q1.2.1 + q2.2.1) 0 = p3 at *
    unfold rtext rint
    simp only [rstep_e r3']
    exact ⟨r3.symm, fun h => absurd h e3⟩
  rw [if_neg (by simpa using e3)]
  have r3 : rtext b (o + q1.2.1 + q2.2.1) 0 = ((sdec (y.drop (q1.2.1 + q2.2.1).toNat)).1, o + q1.2.1 + q2.2.1 + (sdec (y.drop (q1.2.1 + q2.2.1).toNat)).2.1, 0) := by
    unfold rtext
    rw [rstep_ok (by rw [← d2]; exact e3), d2]
  rw [r3]
  simp only
  generalize sdec (y.drop (q1.2.1 + q2.2.1).toNat) = q3 at *
  have n4 := idec_bound (okRd_drop hy (q1.2.1 + q2.2.1 + q3.2.1).toNat)
  rw [List.length_drop] at n4
  have d3 := hd (q1.2.1 + q2.2.1 + q3.2.1) (by omega)
  rw [← Int.add_assoc, ← Int.add_assoc] at d3
  by_cases e4 : (idec (y.drop (q1.2.1 + q2.2.1 + q3.2.1).toNat)).2.2 = 0
  rotate_left
  · rw [if_pos e4]
    have r4 : (rint b (o + q1.2.1 + q2.2.1 + q3.2.1) 0).2.2 = (idec (y.drop (q1.2.1 + q2.2.1 + q3.2.1).toNat)).2.2 := by
      unfold rint
      rw [rstep_err, d3]
    have r4' : (rint b (o + q1.2.1 + q2.2.1 + q3.2.1) 0).2.2 ≠ 0 := by rw [r4]; exact e4
    generalize rint b (o + q1.2.1 + q2.2.1 + q3.2.1) 0 = p4 at *
    unfold rtext
    simp only [rstep_e r4']
    exact ⟨r4.symm, fun h => absurd h e4⟩
  rw [if_neg (by simpa using e4)]
  have r4 : rint b (o + q1.2.1 + q2.2.1 + q3.2.1) 0 = ((idec (y.drop (q1.2.1 + q2.2.1 + q3.2.1).toNat)).1, o + q1.2.1 + q2.2.1 + q3.2.1 + (idec (y.drop (q1.2.1 + q2.2.1 + q3.2.1).toNat)).2.1, 0) := by
    unfold rint
    rw [rstep_ok (by rw [← d3]; exact e4), d3]
  rw [r4]
  simp only
  generalize idec (y.drop (q1.2.1 + q2.2.1 + q3.2.1).toNat) = q4 at *
  have d4 := hd (q1.2.1 + q2.2.1 + q3.2.1 + q4.2.1) (by omega)
  rw [← Int.add_assoc, ← Int.add_assoc, ← Int.add_assoc] at d4
  by_cases e5 : (sdec (y.drop (q1.2.1 + q2.2.1 + q3.2.1 + q4.2.1).toNat)).2.2 = 0
  rotate_left
  · rw [if_pos e5]
    have r5 : (rtext b (o + q1.2.1 + q2.2.1 + q3.2.1 + q4.2.1) 0).2.2 = (sdec (y.drop (q1.2.1 + q2.2.1 + q3.2.1 + q4.2.1).toNat)).2.2 := by
      unfold rtext
      rw [rstep_err, d4]
    exact ⟨r5.symm, fun h => absurd h e5⟩
  rw [if_neg (by simpa using e5)]
  have r5 : rtext b (o + q1.2.1 + q2.2.1 + q3.2.1 + q4.2.1) 0 = ((sdec (y.drop (q1.2.1 + q2.2.1 + q3.2.1 + q4.2.1).toNat)).1, o + q1.2.1 + q2.2.1 + q3.2.1 + q4.2.1 + (sdec (y.drop (q1.2.1 + q2.2.1 + q3.2.1 + q4.2.1).toNat)).2.1, 0) := by
    unfold rtext
    rw [rstep_ok (by rw [← d4]; exact e5), d4]
  rw [r5]
  refine ⟨rfl, fun _ => ?_⟩
  simp only [Prod.mk.injEq, true_and, and_true]
  omega

theorem deff_bound {x : List (List Cell)} (hx : okRd x = true) : 0 ≤ (deff x).2.1 ∧ (deff x).2.1 ≤ x.length ∧ ((deff x).2.2 = 0 → 0 < (deff x).2.1) := by
  have n1 := rnum2_n hx
  have hp : (rnum2 x).2.2 = 0 → 0 < (rnum2 x).2.1 := fun h => (rnum2_bound (okRd_of hx).1 h).1
  unfold deff
  simp only
  generalize rnum2 x = q1 at *
  have n2 := sdec_bound (okRd_drop hx q1.2.1.toNat)
  rw [List.length_drop] at n2
  generalize sdec (x.drop q1.2.1.toNat) = q2 at *
  have n3 := sdec_bound (okRd_drop hx (q1.2.1 + q2.2.1).toNat)
  rw [List.length_drop] at n3
  generalize sdec (x.drop (q1.2.1 + q2.2.1).toNat) = q3 at *
  have n4 := idec_bound (okRd_drop hx (q1.2.1 + q2.2.1 + q3.2.1).toNat)
  rw [List.length_drop] at n4
  generalize idec (x.drop (q1.2.1 + q2.2.1 + q3.2.1).toNat) = q4 at *
  have n5 := sdec_bound (okRd_drop hx (q1.2.1 + q2.2.1 + q3.2.1 + q4.2.1).toNat)
  rw [List.length_drop] at n5
  generalize sdec (x.drop (q1.2.1 + q2.2.1 + q3.2.1 + q4.2.1).toNat) = q5 at *
  split
  · rename_i h; simp only; refine ⟨by omega, by omega, fun h2 => absurd h2 h⟩
  · rename_i h1
    have := hp (by simpa using h1)
    split
    · rename_i h; simp only; exact ⟨by omega, by omega, fun h2 => absurd h2 h⟩
    · split
      · rename_i h; simp only; exact ⟨by omega, by omega, fun h2 => absurd h2 h⟩
      · split
        · rename_i h; simp only; exact ⟨by omega, by omega, fun h2 => absurd h2 h⟩
        · split
          · rename_i h; simp only; exact ⟨by omega, by omega, fun h2 => absurd h2 h⟩
          · simp only; exact ⟨by omega, by omega, fun _ => by omega⟩

/-- the results of the effect's decoder as the code hands them back -/
def rdE (r : (Int × List UInt8 × List UInt8 × Int × List UInt8) × Int × Int) : List AV × List Block :=
  ([.agg [.int .i64 r.1.1, .str r.1.2.1, .str r.1.2.2.1, .int .i64 r.1.2.2.2.1, .str r.1.2.2.2.2], .one (.int .i64 r.2.1), .one (.int .i64 r.2.2)], [])

theorem k45 (x : List (List Cell)) (hx : okRd x = true) : runF E (callOf L44) 1 45 [.one (.sl false 5 x)] [] = some (rdE (deff x)) := by
  have n1 := rnum2_n hx
  have hl := (okRd_of hx).2
  rw [e45]
  simp only [dropN_eq]
  unfold deff
  simp only
  generalize rnum2 x = q1 at *
  have o2 := okRd_drop hx q1.2.1.toNat
  have n2 := sdec_bound o2
  rw [List.length_drop] at n2
  generalize sdec (x.drop q1.2.1.toNat) = q2 at *
  rw [wrap64 (n := q1.2.1 + q2.2.1) (by omega) (by omega)]
  have o3 := okRd_drop hx (q1.2.1 + q2.2.1).toNat
  have n3 := sdec_bound o3
  rw [List.length_drop] at n3
  generalize sdec (x.drop (q1.2.1 + q2.2.1).toNat) = q3 at *
  rw [wrap64 (n := q1.2.1 + q2.2.1 + q3.2.1) (by omega) (by omega)]
  have o4 := okRd_drop hx (q1.2.1 + q2.2.1 + q3.2.1).toNat
  have n4 := idec_bound o4
  rw [List.length_drop] at n4
  generalize idec (x.drop (q1.2.1 + q2.2.1 + q3.2.1).toNat) = q4 at *
  rw [wrap64 (n := q1.2.1 + q2.2.1 + q3.2.1 + q4.2.1) (by omega) (by omega)]
  have o5 := okRd_drop hx (q1.2.1 + q2.2.1 + q3.2.1 + q4.2.1).toNat
  have n5 := sdec_bound o5
  rw [List.length_drop] at n5
  generalize sdec (x.drop (q1.2.1 + q2.2.1 + q3.2.1 + q4.2.1).toNat) = q5 at *
  rw [wrap64 (n := q1.2.1 + q2.2.1 + q3.2.1 + q4.2.1 + q5.2.1) (by omega) (by omega)]
  refine ct hx ?_
  by_cases e1 : q1.2.2 = 0
  rotate_left
  · rw [if_pos e1]; exact ct (by simpa using e1) rfl
  rw [if_neg (by simpa using e1)]
  refine cf (by simpa using e1) (ct (inB_of (by omega) (by omega)) (ct o2 ?_))
  by_cases e2 : q2.2.2 = 0
  rotate_left
  · rw [if_pos e2]; exact ct (by simpa using e2) rfl
  rw [if_neg (by simpa using e2)]
  refine cf (by simpa using e2) (ct (inB_of (by omega) (by omega)) (ct o3 ?_))
  by_cases e3 : q3.2.2 = 0
  rotate_left
  · rw [if_pos e3]; exact ct (by simpa using e3) rfl
  rw [if_neg (by simpa using e3)]
  refine cf (by simpa using e3) (ct (inB_of (by omega) (by omega)) (ct o4 ?_))
  by_cases e4 : q4.2.2 = 0
  rotate_left
  · rw [if_pos e4]; exact ct (by simpa using e4) rfl
  rw [if_neg (by simpa using e4)]
  refine cf (by simpa using e4) (ct (inB_of (by omega) (by omega)) (ct o5 ?_))
  by_cases e5 : q5.2.2 = 0
  rotate_left
  · rw [if_pos e5]; exact ct (by simpa using e5) rfl
  rw [if_neg (by simpa using e5)]
  exact cf (by simpa using e5) rfl

theorem decEs_bound (x : List (List Cell)) (hx : okRd x = true) : ∀ (k : Nat) (a : Int) (acc : List (List Cell)), 0 ≤ a → a ≤ x.length → (decEs x k a acc).2.2 = 0 →
    a ≤ (decEs x k a acc).2.1 ∧ (decEs x k a acc).2.1 ≤ x.length ∧ (decEs x k a acc).1.length = acc.length + k
  | 0, a, acc, ha, hl, _ => ⟨Int.le_refl _, hl, rfl⟩
  | k + 1, a, acc, ha, hl, h => by
    simp only [decEs] at h ⊢
    have hb := deff_bound (okRd_drop hx a.toNat)
    rw [List.length_drop] at hb
    by_cases he : (deff (x.drop a.toNat)).2.2 = 0
    · rw [if_neg (by simpa using he)] at h ⊢
      have := decEs_bound x hx k _ (acc ++ [mkEff (deff (x.drop a.toNat)).1]) (by omega) (by omega) h
      simp only [List.length_append, List.length_cons, List.length_nil] at this
      exact ⟨by omega, this.2.1, by omega⟩
    · rw [if_pos he] at h
      exact absurd h he

/-- what a decoder hands back -/
def dp (r : Int × Int × Int × List (List Cell) × Int × Int) : List AV × List Block :=
  ([.agg [.int .i64 r.1, .int .i64 r.2.1, .int .i64 r.2.2.1, .sl true 23 r.2.2.2.1], .one (.int .i64 r.2.2.2.2.1), .one (.int .i64 r.2.2.2.2.2)], [])

theorem end25 (m : Nat) (t7 t8 : Int) (x : List (List Cell)) (o e c q t : Int) (l : List (List Cell)) (he : e ≠ 0) :
    goF E (callOf L40) F25 0 (m + 1) P25_0 (M25_0 t7 t8 0 0 0 [] x o e c q t l) = some (dp (0, 0, 0, [], 0, e)) := by
  rw [e25_0]
  have h1 : (e == 0) = false := by simpa using he
  have h2 : (e != 0) = true := by simpa using he
  rw [h1, h2]
  cases (decide (t8 < t7)) <;> rfl

theorem fin25 (m : Nat) (t7 t8 : Int) (x : List (List Cell)) (o c q t : Int) (l : List (List Cell)) (h : ¬ t8 < t7) :
    goF E (callOf L40) F25 0 (m + 1) P25_0 (M25_0 t7 t8 0 0 0 [] x o 0 c q t l) = some (dp (finU c q t (l, o, 0))) := by
  rw [e25_0]
  refine cf (decide_eq_false h) (ct rfl ?_)
  unfold finU
  rw [if_neg (by simp)]
  by_cases hv : vUpd c q t l = 0
  · rw [if_neg (by simpa using hv)]
    exact cf (by simpa using hv) rfl
  · rw [if_pos hv]
    exact ct (by simpa using hv) rfl

theorem l25 (x : List (List Cell)) (hx : okRd x = true) (k c q t : Int) (hk : k ≤ 4) : ∀ (d i : Nat) (o : Int) (acc : List (List Cell)), i + d = k.toNat → 0 ≤ o → o ≤ x.length → acc.length = i →
    ∃ m, goF E (callOf L40) F25 0 m P25_0 (M25_0 k i 0 0 0 [] x o 0 c q t acc) = some (dp (finU c q t (decEs x d o acc))) := by
  intro d
  induction d with
  | zero =>
    intro i o acc hi h0 h1 ha
    exact ⟨1, by rw [fin25 0 _ _ _ _ _ _ _ _ (by omega)]; rfl⟩
  | succ d ih =>
    intro i o acc hi h0 h1 ha
    have hat := okAt_mk hx h0 h1
    obtain ⟨c1, c2⟩ := reff_deff hat
    have hb := deff_bound (okRd_drop hx o.toNat)
    rw [List.length_drop] at hb
    by_cases he : (deff (x.drop o.toNat)).2.2 = 0
    · have c3 := c2 he
      obtain ⟨m, hm⟩ := ih (i + 1) (o + (deff (x.drop o.toNat)).2.1) (acc ++ [mkEff (deff (x.drop o.toNat)).1]) (by omega) (by omega) (by omega) (by simp; omega)
      refine ⟨m + 1, ?_⟩
      rw [e25_0]
      refine ct (decide_eq_true (by omega)) (ct rfl (ct hat (ct (fits_of (by simp; omega)) ?_)))
      rw [nat_wrap (n := 4) (by omega) (by omega), c3]
      simp only [decEs, if_neg (show ¬ (deff (x.drop o.toNat)).2.2 ≠ 0 by simpa using he)]
      exact hm
    · refine ⟨2, ?_⟩
      rw [e25_0]
      refine ct (decide_eq_true (by omega)) (ct rfl (ct hat (ct (fits_of (by simp; omega)) ?_)))
      rw [end25 0 _ _ _ _ _ _ _ _ _ (by rw [← c1]; exact he), ← c1]
      simp only [decEs, if_pos he, finU]

theorem k25 (x : List (List Cell)) (hx : okRd x = true) : ∃ m, runF E (callOf L40) m 25 [.one (.sl false 5 x)] [] = some (dp (decU x)) := by
  have hc := chain_read hx (o := 0) (by omega) (by omega) 4
  have a1 := okAt_mk hx (o := 0) (by omega) (by omega)
  have a2 := rnum_at (e := 0) a1
  have a3 := rnum_at (e := (rnum x 0 0).2.2) a2
  simp only [show (4 : Int).toNat = 4 from rfl, show (0 : Int).toNat = 0 from rfl, List.drop_zero, chain] at hc
  unfold decU
  generalize hp1 : rnum x 0 0 = p1 at *
  generalize hp2 : rnum x p1.2.1 p1.2.2 = p2 at *
  have a4 := rnum_at (e := p2.2.2) a3
  generalize hp3 : rnum x p2.2.1 p2.2.2 = p3 at *
  generalize hp4 : rnum x p3.2.1 p3.2.2 = p4 at *
  obtain ⟨c1, c2⟩ := hc
  by_cases he : (rread x 4).2.2 = 0
  · obtain ⟨c3, c4⟩ := c2 he
    have hb := rread_bound hx he
    have e0 : nr (Abs.rowAt (rread x 4).1 0) 0 = p1.1 := by rw [c4]; rfl
    have e1 : nr (Abs.rowAt (rread x 4).1 1) 0 = p2.1 := by rw [c4]; rfl
    have e2 : nr (Abs.rowAt (rread x 4).1 2) 0 = p3.1 := by rw [c4]; rfl
    have e3 : nr (Abs.rowAt (rread x 4).1 3) 0 = p4.1 := by rw [c4]; rfl
    rw [if_neg (by simpa using he), e0, e1, e2, e3]
    have hz : p4.2.2 = 0 := by rw [← c1]; exact he
    by_cases h6 : 4 < p4.1
    · refine ⟨2, ?_⟩
      rw [e25, hp1, hp2, hp3, hp4, if_pos h6]
      refine ct a1 (ct a2 (ct a3 (ct a4 (ct (by simpa using hz) (ct (decide_eq_true h6) ?_)))))
      exact end25 0 _ _ _ _ _ _ _ _ _ (by decide)
    · obtain ⟨m, hm⟩ := l25 x hx p4.1 p1.1 p2.1 p3.1 (by omega) p4.1.toNat 0 (rread x 4).2.1 [] (by omega) hb.1 hb.2.1 rfl
      refine ⟨m + 1, ?_⟩
      rw [e25, hp1, hp2, hp3, hp4, if_neg h6]
      refine ct a1 (ct a2 (ct a3 (ct a4 (ct (by simpa using hz) (cf (decide_eq_false h6) ?_)))))
      rw [c3, hz, Int.zero_add]
      exact hm
  · refine ⟨2, ?_⟩
    rw [e25, hp1, hp2, hp3, hp4, if_pos he, c1]
    have hz : p4.2.2 ≠ 0 := by rw [← c1]; exact he
    refine ct a1 (ct a2 (ct a3 (ct a4 (cf (by simpa using hz) ?_))))
    exact end25 0 _ _ _ _ _ _ _ _ _ hz

theorem l27 (x : List (List Cell)) (hx : okRd x = true) (h : List (List Cell)) (k c q t : Int) (ht : h.length = 4) (htk : nr (Abs.rowAt h 3) 0 = k) (hk : k ≤ 4) : ∀ (d i : Nat) (o : Int) (acc : List (List Cell)), i + d = k.toNat → 0 ≤ o → o ≤ x.length → acc.length = i →
    ∃ m, goF E (callOf L45) F27 0 m P27_0 (M27_0 x h o i 0 0 0 [] c q t acc) = some (dp (finU c q t (decEs x d o acc))) := by
  intro d
  induction d with
  | zero =>
    intro i o acc hi h0 h1 ha
    refine ⟨1, ?_⟩
    rw [e27_0, htk]
    refine ct (inB_of (by omega) (by omega)) (cf (decide_eq_false (by omega)) ?_)
    unfold finU decEs
    rw [if_neg (by simp)]
    by_cases hv : vUpd c q t acc = 0
    · rw [if_neg (by simpa using hv)]
      exact cf (by simpa using hv) rfl
    · rw [if_pos hv]
      exact ct (by simpa using hv) rfl
  | succ d ih =>
    intro i o acc hi h0 h1 ha
    have h4 := okRd_drop hx o.toNat
    have hb := deff_bound h4
    rw [List.length_drop] at hb
    have hl := (okRd_of hx).2
    by_cases he : (deff (x.drop o.toNat)).2.2 = 0
    · obtain ⟨m, hm⟩ := ih (i + 1) (o + (deff (x.drop o.toNat)).2.1) (acc ++ [mkEff (deff (x.drop o.toNat)).1]) (by omega) (by omega) (by omega) (by simp; omega)
      refine ⟨m + 1, ?_⟩
      rw [e27_0, htk, dropN_eq]
      refine ct (inB_of (by omega) (by omega)) (ct (decide_eq_true (by omega)) (ct (inB_of h0 (by omega)) (ct h4 (cf (by simpa using he) (ct (fits_of (by simp; omega)) ?_)))))
      rw [nat_wrap (n := 4) (by omega) (by omega), wrap64 (by omega) (by omega)]
      simp only [decEs, if_neg (show ¬ (deff (x.drop o.toNat)).2.2 ≠ 0 by simpa using he)]
      exact hm
    · refine ⟨1, ?_⟩
      rw [e27_0, htk, dropN_eq]
      refine ct (inB_of (by omega) (by omega)) (ct (decide_eq_true (by omega)) (ct (inB_of h0 (by omega)) (ct h4 (ct (by simpa using he) ?_))))
      simp only [decEs, if_pos he, finU]
      rfl

theorem k27 (x : List (List Cell)) (hx : okRd x = true) : ∃ m, runF E (callOf L45) m 27 [.one (.sl false 5 x)] [] = some (dp (decU x)) := by
  unfold decU
  by_cases he : (rread x 4).2.2 = 0
  · have hb := rread_bound hx he
    have h3 : (rread x 4).1.length = 4 := hb.2.2.1
    rw [if_neg (by simpa using he)]
    by_cases h6 : 4 < nr (Abs.rowAt (rread x 4).1 3) 0
    · refine ⟨1, ?_⟩
      rw [e27, if_pos h6]
      exact ct (by simp [hx]) (cf (by simpa using he) (ct (inB_of (by omega) (by omega)) (ct (decide_eq_true h6) rfl)))
    · obtain ⟨m, hm⟩ := l27 x hx (rread x 4).1 _ (nr (Abs.rowAt (rread x 4).1 0) 0) (nr (Abs.rowAt (rread x 4).1 1) 0) (nr (Abs.rowAt (rread x 4).1 2) 0) h3 rfl (by omega) _ 0 (rread x 4).2.1 [] (Nat.zero_add _) hb.1 hb.2.1 rfl
      refine ⟨m + 1, ?_⟩
      rw [e27, if_neg h6]
      exact ct (by simp [hx]) (cf (by simpa using he) (ct (inB_of (by omega) (by omega)) (cf (decide_eq_false h6) (ct (inB_of (by omega) (by omega)) (ct (inB_of (by omega) (by omega)) (ct (inB_of (by omega) (by omega)) hm))))))
  · refine ⟨1, ?_⟩
    rw [e27, if_pos he]
    exact ct (by simp [hx]) (ct (by simpa using he) rfl)

end Go.Proofs.Yteogaajjkcfeeaa
