/-
  The contracts of the two decoders of proposals.
-/
import Derived.Test.YtaafnpmijncpeaaPure4
namespace Go.Proofs.Ytaafnpmijncpeaa
open Go.Abs

def chain (x : List (List Cell)) : Nat → Int → Int → List Int × Int × Int
  | 0, o, e => ([], o, e)
  | k + 1, o, e => ((rnum x o e).1 :: (chain x k (rnum x o e).2.1 (rnum x o e).2.2).1, (chain x k (rnum x o e).2.1 (rnum x o e).2.2).2)

theorem chain_err (x : List (List Cell)) (o e : Int) (he : e ≠ 0) : ∀ k, (chain x k o e).2 = (o, e)
  | 0 => rfl
  | k + 1 => by
    have : rnum x o e = (0, o, e) := by unfold rnum; rw [if_pos he]
    simp only [chain, this]
    exact chain_err x o e he k

theorem chain_rd (x : List (List Cell)) (hx : okRd x = true) (o : Int) (ho : 0 ≤ o) : ∀ (k : Nat) (a : Int) (acc : List (List Cell)), 0 ≤ a → o + a ≤ x.length →
    (rreadF (x.drop o.toNat) k a acc).2.2 = (chain x k (o + a) 0).2.2 ∧
    ((rreadF (x.drop o.toNat) k a acc).2.2 = 0 → (chain x k (o + a) 0).2.1 = o + (rreadF (x.drop o.toNat) k a acc).2.1 ∧ (rreadF (x.drop o.toNat) k a acc).1 = acc ++ (chain x k (o + a) 0).1.map fun n => [Cell.int .i64 n])
  | 0, a, acc, _, _ => by simp [rreadF, chain]
  | k + 1, a, acc, ha, hl => by
    have hd : (x.drop o.toNat).drop a.toNat = x.drop (o + a).toNat := by
      rw [List.drop_drop]
      congr 1
      omega
    simp only [rreadF, chain, hd]
    by_cases he : (rnum2 (x.drop (o + a).toNat)).2.2 = 0
    · have hr : rnum x (o + a) 0 = ((rnum2 (x.drop (o + a).toNat)).1, o + a + (rnum2 (x.drop (o + a).toNat)).2.1, 0) := by
        unfold rnum
        rw [if_neg (by simp), if_neg (by simpa using he)]
      have hb := rnum2_bound (okRd_of (okRd_drop hx (o + a).toNat)).1 he
      rw [List.length_drop] at hb
      rw [if_neg (by simpa using he), hr]
      have := chain_rd x hx o ho k (a + (rnum2 (x.drop (o + a).toNat)).2.1) (acc ++ [[.int .i64 (rnum2 (x.drop (o + a).toNat)).1]]) (by omega) (by omega)
      rw [← Int.add_assoc] at this
      refine ⟨this.1, fun h => ⟨(this.2 h).1, ?_⟩⟩
      rw [(this.2 h).2]
      simp
    · have hr : rnum x (o + a) 0 = (0, o + a, (rnum2 (x.drop (o + a).toNat)).2.2) := by
        unfold rnum
        rw [if_neg (by simp), if_pos he]
      rw [if_pos he, hr]
      simp only
      rw [chain_err x (o + a) _ he k]
      exact ⟨rfl, fun h => absurd h he⟩

theorem chain_read {x : List (List Cell)} (hx : okRd x = true) {o : Int} (ho : 0 ≤ o) (hl : o ≤ x.length) (c : Int) :
    (rread (x.drop o.toNat) c).2.2 = (chain x c.toNat o 0).2.2 ∧
    ((rread (x.drop o.toNat) c).2.2 = 0 → (chain x c.toNat o 0).2.1 = o + (rread (x.drop o.toNat) c).2.1 ∧ (rread (x.drop o.toNat) c).1 = (chain x c.toNat o 0).1.map fun n => [Cell.int .i64 n]) := by
  have := chain_rd x hx o ho c.toNat 0 [] (by omega) (by omega)
  rw [Int.add_zero] at this
  exact this

theorem rreadF_bound (x : List (List Cell)) (hx : okRd x = true) : ∀ (k : Nat) (a : Int) (acc : List (List Cell)), 0 ≤ a → a ≤ x.length → (rreadF x k a acc).2.2 = 0 →
    a ≤ (rreadF x k a acc).2.1 ∧ (rreadF x k a acc).2.1 ≤ x.length ∧ (rreadF x k a acc).1.length = acc.length + k ∧ (1 ≤ k → a < (rreadF x k a acc).2.1)
  | 0, a, acc, ha, hl, _ => ⟨Int.le_refl _, hl, rfl, fun h => by omega⟩
  | k + 1, a, acc, ha, hl, h => by
    simp only [rreadF] at h ⊢
    by_cases he : (rnum2 (x.drop a.toNat)).2.2 = 0
    · have hb := rnum2_bound (okRd_of (okRd_drop hx a.toNat)).1 he
      rw [List.length_drop] at hb
      rw [if_neg (by simpa using he)] at h ⊢
      have := rreadF_bound x hx k _ (acc ++ [[.int .i64 (rnum2 (x.drop a.toNat)).1]]) (by omega) (by omega) h
      simp only [List.length_append, List.length_cons, List.length_nil] at this
      exact ⟨by omega, this.2.1, by omega, fun _ => by omega⟩
    · rw [if_pos he] at h
      exact absurd h he

theorem rread_bound {x : List (List Cell)} (hx : okRd x = true) {c : Int} (h : (rread x c).2.2 = 0) : 0 ≤ (rread x c).2.1 ∧ (rread x c).2.1 ≤ x.length ∧ (rread x c).1.length = c.toNat ∧ (1 ≤ c.toNat → 0 < (rread x c).2.1) := by
  have := rreadF_bound x hx c.toNat 0 [] (by omega) (by omega) h
  rw [List.length_nil, Nat.zero_add] at this
  exact this

theorem decCs_bound (x : List (List Cell)) (hx : okRd x = true) : ∀ (k : Nat) (a : Int) (acc : List (List Cell)), 0 ≤ a → a ≤ x.length → (decCs x k a acc).2.2 = 0 →
    a ≤ (decCs x k a acc).2.1 ∧ (decCs x k a acc).2.1 ≤ x.length ∧ (decCs x k a acc).1.length = acc.length + k
  | 0, a, acc, ha, hl, _ => ⟨Int.le_refl _, hl, rfl⟩
  | k + 1, a, acc, ha, hl, h => by
    simp only [decCs] at h ⊢
    by_cases he : (rread (x.drop a.toNat) 7).2.2 = 0
    · have hb := rread_bound (okRd_drop hx a.toNat) he
      rw [List.length_drop] at hb
      rw [if_neg (by simpa using he)] at h ⊢
      have := decCs_bound x hx k _ (acc ++ [mkCh (rread (x.drop a.toNat) 7).1]) (by omega) (by omega) h
      simp only [List.length_append, List.length_cons, List.length_nil] at this
      exact ⟨by omega, this.2.1, by omega⟩
    · rw [if_pos he] at h
      exact absurd h he

/-- what a decoder hands back -/
def dp (r : Int × Int × List (List Cell) × Int × Int) : List AV × List Block :=
  ([.agg [.int .i64 r.1, .int .i64 r.2.1, .sl true 25 r.2.2.1], .one (.int .i64 r.2.2.2.1), .one (.int .i64 r.2.2.2.2)], [])

def fin5 (a n : Int) (r : List (List Cell) × Int × Int) : Int × Int × List (List Cell) × Int × Int :=
  if r.2.2 ≠ 0 then (0, 0, [], 0, r.2.2) else if vProp a n r.1 ≠ 0 then (0, 0, [], 0, vProp a n r.1) else (a, n, r.1, r.2.1, 0)

theorem end20 (m : Nat) (t7 t8 : Int) (x : List (List Cell)) (o e a n : Int) (l : List (List Cell)) (he : e ≠ 0) :
    goF E (callOf L19) F20 0 (m + 1) P20_0 (M20_0 t7 t8 0 0 [] x o e a n l) = some (dp (0, 0, [], 0, e)) := by
  rw [e20_0]
  have h1 : (e == 0) = false := by simpa using he
  have h2 : (e != 0) = true := by simpa using he
  rw [h1, h2]
  cases (decide (t8 < t7)) <;> rfl

theorem fin20 (m : Nat) (t7 t8 : Int) (x : List (List Cell)) (o a n : Int) (l : List (List Cell)) (h : ¬ t8 < t7) (hl : l.length < 4611686018427387904) :
    goF E (callOf L19) F20 0 (m + 1) P20_0 (M20_0 t7 t8 0 0 [] x o 0 a n l) = some (dp (fin5 a n (l, o, 0))) := by
  rw [e20_0]
  refine cf (decide_eq_false h) (ct rfl (ct (decide_eq_true hl) ?_))
  unfold fin5
  rw [if_neg (by simp)]
  by_cases hv : vProp a n l = 0
  · rw [if_neg (by simpa using hv)]
    exact cf (by simpa using hv) rfl
  · rw [if_pos hv]
    exact ct (by simpa using hv) rfl

theorem l20 (x : List (List Cell)) (hx : okRd x = true) (k a n : Int) (hk : k ≤ 6) : ∀ (d i : Nat) (o : Int) (acc : List (List Cell)), i + d = k.toNat → 0 ≤ o → o ≤ x.length → acc.length = i →
    ∃ m, goF E (callOf L19) F20 0 m P20_0 (M20_0 k i 0 0 [] x o 0 a n acc) = some (dp (fin5 a n (decCs x d o acc))) := by
  intro d
  induction d with
  | zero =>
    intro i o acc hi h0 h1 ha
    exact ⟨1, by rw [fin20 0 _ _ _ _ _ _ _ (by omega) (by omega)]; rfl⟩
  | succ d ih =>
    intro i o acc hi h0 h1 ha
    have hc := chain_read hx h0 h1 7
    have a1 := okAt_mk hx h0 h1
    have a2 := rnum_at (e := 0) a1
    have a3 := rnum_at (e := (rnum x o 0).2.2) a2
    simp only [show (7 : Int).toNat = 7 from rfl, chain] at hc
    rw [show ((x.drop o.toNat) : List (List Cell)) = x.drop o.toNat from rfl] at hc
    have a4 := rnum_at (e := (rnum x (rnum x o 0).2.1 (rnum x o 0).2.2).2.2) a3
    generalize hp1 : rnum x o 0 = p1 at *
    generalize hp2 : rnum x p1.2.1 p1.2.2 = p2 at *
    generalize hp3 : rnum x p2.2.1 p2.2.2 = p3 at *
    have a5 := rnum_at (e := p3.2.2) a4
    generalize hp4 : rnum x p3.2.1 p3.2.2 = p4 at *
    have a6 := rnum_at (e := p4.2.2) a5
    generalize hp5 : rnum x p4.2.1 p4.2.2 = p5 at *
    have a7 := rnum_at (e := p5.2.2) a6
    generalize hp6 : rnum x p5.2.1 p5.2.2 = p6 at *
    generalize hp7 : rnum x p6.2.1 p6.2.2 = p7 at *
    obtain ⟨c1, c2⟩ := hc
    by_cases he : (rread (x.drop o.toNat) 7).2.2 = 0
    · obtain ⟨c3, c4⟩ := c2 he
      have hb := rread_bound (okRd_drop hx o.toNat) he
      rw [List.length_drop] at hb
      obtain ⟨m, hm⟩ := ih (i + 1) (o + (rread (x.drop o.toNat) 7).2.1) (acc ++ [mkCh (rread (x.drop o.toNat) 7).1]) (by omega) (by omega) (by omega) (by simp; omega)
      refine ⟨m + 1, ?_⟩
      rw [e20_0, hp1, hp2, hp3, hp4, hp5, hp6, hp7]
      refine ct (decide_eq_true (by omega)) (ct rfl (ct a1 (ct a2 (ct a3 (ct a4 (ct a5 (ct a6 (ct a7 (ct (fits_of (by simp; omega)) ?_)))))))))
      rw [nat_wrap (n := 6) (by omega) (by omega), c3, ← c1, he]
      simp only [decCs, if_neg (show ¬ (rread (x.drop o.toNat) 7).2.2 ≠ 0 by simpa using he)]
      refine Eq.trans ?_ hm
      rw [c4]
      rfl
    · refine ⟨2, ?_⟩
      rw [e20_0, hp1, hp2, hp3, hp4, hp5, hp6, hp7]
      refine ct (decide_eq_true (by omega)) (ct rfl (ct a1 (ct a2 (ct a3 (ct a4 (ct a5 (ct a6 (ct a7 (ct (fits_of (by simp; omega)) ?_)))))))))
      rw [end20 0 _ _ _ _ _ _ _ _ (by rw [← c1]; exact he), ← c1]
      simp only [decCs, if_pos he, fin5]

theorem decP_eq (x : List (List Cell)) : decP x = if (rread x 3).2.2 ≠ 0 then (0, 0, [], 0, (rread x 3).2.2) else if 6 < nr (Abs.rowAt (rread x 3).1 2) 0 then (0, 0, [], 0, 3)
    else fin5 (nr (Abs.rowAt (rread x 3).1 0) 0) (nr (Abs.rowAt (rread x 3).1 1) 0) (decCs x (nr (Abs.rowAt (rread x 3).1 2) 0).toNat (rread x 3).2.1 []) := rfl

theorem k20 (x : List (List Cell)) (hx : okRd x = true) : ∃ m, runF E (callOf L19) m 20 [.one (.sl false 5 x)] [] = some (dp (decP x)) := by
  have hc := chain_read hx (o := 0) (by omega) (by omega) 3
  have a1 := okAt_mk hx (o := 0) (by omega) (by omega)
  have a2 := rnum_at (e := 0) a1
  have a3 := rnum_at (e := (rnum x 0 0).2.2) a2
  simp only [show (3 : Int).toNat = 3 from rfl, show (0 : Int).toNat = 0 from rfl, List.drop_zero, chain] at hc
  generalize hp1 : rnum x 0 0 = p1 at *
  generalize hp2 : rnum x p1.2.1 p1.2.2 = p2 at *
  generalize hp3 : rnum x p2.2.1 p2.2.2 = p3 at *
  obtain ⟨c1, c2⟩ := hc
  rw [decP_eq]
  by_cases he : (rread x 3).2.2 = 0
  · obtain ⟨c3, c4⟩ := c2 he
    have hb := rread_bound hx he
    have e0 : nr (Abs.rowAt (rread x 3).1 0) 0 = p1.1 := by rw [c4]; rfl
    have e1 : nr (Abs.rowAt (rread x 3).1 1) 0 = p2.1 := by rw [c4]; rfl
    have e2 : nr (Abs.rowAt (rread x 3).1 2) 0 = p3.1 := by rw [c4]; rfl
    rw [if_neg (by simpa using he), e0, e1, e2]
    have hz : p3.2.2 = 0 := by rw [← c1]; exact he
    by_cases h6 : 6 < p3.1
    · refine ⟨2, ?_⟩
      rw [e20, hp1, hp2, hp3, if_pos h6]
      refine ct a1 (ct a2 (ct a3 (ct (by simpa using hz) (ct (decide_eq_true h6) ?_))))
      exact end20 0 _ _ _ _ _ _ _ _ (by decide)
    · obtain ⟨m, hm⟩ := l20 x hx p3.1 p1.1 p2.1 (by omega) p3.1.toNat 0 (rread x 3).2.1 [] (by omega) hb.1 hb.2.1 rfl
      refine ⟨m + 1, ?_⟩
      rw [e20, hp1, hp2, hp3, if_neg h6]
      refine ct a1 (ct a2 (ct a3 (ct (by simpa using hz) (cf (decide_eq_false h6) ?_))))
      rw [c3, hz, Int.zero_add]
      exact hm
  · refine ⟨2, ?_⟩
    rw [e20, hp1, hp2, hp3, if_pos he, c1]
    have hz : p3.2.2 ≠ 0 := by rw [← c1]; exact he
    refine ct a1 (ct a2 (ct a3 (cf (by simpa using hz) ?_)))
    exact end20 0 _ _ _ _ _ _ _ _ hz

theorem l22 (x : List (List Cell)) (hx : okRd x = true) (t : List (List Cell)) (k a n : Int) (ht : t.length = 3) (htk : nr (Abs.rowAt t 2) 0 = k) (hk : k ≤ 6) : ∀ (d i : Nat) (o : Int) (acc : List (List Cell)), i + d = k.toNat → 0 ≤ o → o ≤ x.length → acc.length = i →
    ∃ m, goF E (callOf L21) F22 0 m P22_0 (M22_0 x t o i 0 0 [] a n acc) = some (dp (fin5 a n (decCs x d o acc))) := by
  intro d
  induction d with
  | zero =>
    intro i o acc hi h0 h1 ha
    refine ⟨1, ?_⟩
    rw [e22_0, htk]
    refine ct (inB_of (by omega) (by omega)) (cf (decide_eq_false (by omega)) (ct (decide_eq_true (by omega)) ?_))
    unfold fin5 decCs
    rw [if_neg (by simp)]
    by_cases hv : vProp a n acc = 0
    · rw [if_neg (by simpa using hv)]
      exact cf (by simpa using hv) rfl
    · rw [if_pos hv]
      exact ct (by simpa using hv) rfl
  | succ d ih =>
    intro i o acc hi h0 h1 ha
    have h4 := okRd_drop hx o.toNat
    by_cases he : (rread (x.drop o.toNat) 7).2.2 = 0
    · have hb := rread_bound h4 he
      rw [List.length_drop] at hb
      have h7 : (rread (x.drop o.toNat) 7).1.length = 7 := hb.2.2.1
      obtain ⟨m, hm⟩ := ih (i + 1) (o + (rread (x.drop o.toNat) 7).2.1) (acc ++ [mkCh (rread (x.drop o.toNat) 7).1]) (by omega) (by omega) (by omega) (by simp; omega)
      refine ⟨m + 1, ?_⟩
      have hl := (okRd_of hx).2
      rw [e22_0, htk, dropN_eq]
      refine ct (inB_of (by omega) (by omega)) (ct (decide_eq_true (by omega)) (ct (inB_of h0 (by omega)) (ct (by simp [h4]) (cf (by simpa using he) ?_))))
      refine ct (inB_of (by omega) (by omega)) (ct (inB_of (by omega) (by omega)) (ct (inB_of (by omega) (by omega)) (ct (inB_of (by omega) (by omega)) (ct (inB_of (by omega) (by omega)) (ct (inB_of (by omega) (by omega)) (ct (inB_of (by omega) (by omega)) (ct (fits_of (by simp; omega)) ?_)))))))
      rw [nat_wrap (n := 6) (by omega) (by omega), wrap64 (by omega) (by omega)]
      simp only [decCs, if_neg (show ¬ (rread (x.drop o.toNat) 7).2.2 ≠ 0 by simpa using he)]
      exact hm
    · refine ⟨1, ?_⟩
      rw [e22_0, htk, dropN_eq]
      refine ct (inB_of (by omega) (by omega)) (ct (decide_eq_true (by omega)) (ct (inB_of h0 (by omega)) (ct (by simp [h4]) (ct (by simpa using he) ?_))))
      simp only [decCs, if_pos he, fin5]
      rfl

theorem k22 (x : List (List Cell)) (hx : okRd x = true) : ∃ m, runF E (callOf L21) m 22 [.one (.sl false 5 x)] [] = some (dp (decP x)) := by
  rw [decP_eq]
  by_cases he : (rread x 3).2.2 = 0
  · have hb := rread_bound hx he
    have h3 : (rread x 3).1.length = 3 := hb.2.2.1
    rw [if_neg (by simpa using he)]
    by_cases h6 : 6 < nr (Abs.rowAt (rread x 3).1 2) 0
    · refine ⟨1, ?_⟩
      rw [e22, if_pos h6]
      exact ct (by simp [hx]) (cf (by simpa using he) (ct (inB_of (by omega) (by omega)) (ct (decide_eq_true h6) rfl)))
    · obtain ⟨m, hm⟩ := l22 x hx (rread x 3).1 _ (nr (Abs.rowAt (rread x 3).1 0) 0) (nr (Abs.rowAt (rread x 3).1 1) 0) h3 rfl (by omega) _ 0 (rread x 3).2.1 [] (Nat.zero_add _) hb.1 hb.2.1 rfl
      refine ⟨m + 1, ?_⟩
      rw [e22, if_neg h6]
      exact ct (by simp [hx]) (cf (by simpa using he) (ct (inB_of (by omega) (by omega)) (cf (decide_eq_false h6) (ct (inB_of (by omega) (by omega)) (ct (inB_of (by omega) (by omega)) hm)))))
  · refine ⟨1, ?_⟩
    rw [e22, if_pos he]
    exact ct (by simp [hx]) (ct (by simpa using he) rfl)

end Go.Proofs.Ytaafnpmijncpeaa
