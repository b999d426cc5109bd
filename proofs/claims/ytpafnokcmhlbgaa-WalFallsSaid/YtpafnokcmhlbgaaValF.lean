/-
  The contracts, one on top of the other.
-/
import Derived.Test.YtpafnokcmhlbgaaW17
import Derived.Test.YtpafnokcmhlbgaaA30
namespace Go.Proofs.Ytpafnokcmhlbgaa
open Go.Abs

/-- guards, opened -/
theorem okBl_of {x : List (List Cell)} (h : okBl x = true) : okB x = true ∧ x.length ≤ 1000000 := by
  unfold okBl at h
  simp only [Bool.and_eq_true] at h
  exact ⟨h.1, pd_of h.2⟩
theorem okMx_of {n : Nat} {x : List (List Cell)} (h : okMx n x = true) : n = x.length ∧ x.length ≤ 1000000 := by
  unfold okMx at h
  simp only [Bool.and_eq_true] at h
  exact ⟨Nat.eq_of_beq_eq_true h.1, pd_of h.2⟩
theorem okWa_of {lo n c k : Nat} {x : List (List Cell)} (h : okWa lo n c x k = true) : 0 < x.length ∧ n + k ≤ c ∧ lo + n + k ≤ x.length := by
  unfold okWa at h
  simp only [Bool.and_eq_true] at h
  exact ⟨pd_of h.1, pd_of h.2.1, pd_of h.2.2⟩
theorem okWb_of {lo n : Nat} {x : List (List Cell)} (h : okWb lo n x = true) : lo + n ≤ x.length ∧ n ≤ 1000000 := by
  unfold okWb at h
  simp only [Bool.and_eq_true] at h
  exact ⟨pd_of h.1, pd_of h.2.2⟩
theorem okRx_of {o : Int} {y : List (List Cell)} (h : okRx o y = true) : okB y = true ∧ 0 ≤ o ∧ o ≤ 4611686018427387904 ∧ y.length ≤ 30000 := by
  unfold okRx at h
  simp only [Bool.and_eq_true] at h
  exact ⟨h.1, pd_of h.2.1, pd_of h.2.2.1, pd_of h.2.2.2⟩


theorem v11 : ∀ args blk r, s11 args blk = (true, r) → ∃ n, runF E (callOf L) n 11 args blk = some r ∨ run E n 11 args blk = (true, r) := by
  intro args blk r h
  unfold s11 at h
  split at h
  · obtain ⟨g, rfl⟩ := guarded h
    exact ⟨1, .inl (k11 _ _ (pd_of g))⟩
  · cases h

theorem v72 : ∀ args blk r, s72 args blk = (true, r) → ∃ n, runF E (callOf L11) n 72 args blk = some r ∨ run E n 72 args blk = (true, r) := by
  intro args blk r h
  unfold s72 at h
  split at h
  · obtain ⟨g, rfl⟩ := guarded h
    simp only [Bool.and_eq_true] at g
    obtain ⟨g0, g1, g2⟩ := g
    obtain ⟨hn, hx⟩ := okMx_of g2
    rcases okSz_of g1 with rfl | rfl
    · exact ⟨1, .inl (k72b _ _ _ hn hx)⟩
    · exact ⟨1, .inl (k72 _ _ _ hn hx)⟩
  · obtain ⟨g, rfl⟩ := guarded h
    simp only [Bool.and_eq_true] at g
    obtain ⟨g0, g1, g2⟩ := g
    obtain ⟨h0, hc, hx⟩ := okWa_of g2
    rcases okSz_of g1 with rfl | rfl
    · exact ⟨1, .inl (k72d _ _ _ _ _ h0 hc hx)⟩
    · exact ⟨1, .inl (k72c _ _ _ _ _ h0 hc hx)⟩
  · cases h

theorem v73 : ∀ args blk r, s73 args blk = (true, r) → ∃ n, runF E (callOf L72) n 73 args blk = some r ∨ run E n 73 args blk = (true, r) := by
  intro args blk r h
  unfold s73 at h
  split at h
  · obtain ⟨g, rfl⟩ := guarded h
    obtain ⟨n, hn⟩ := k73 _ (okBl_of g).2
    exact ⟨n, .inl hn⟩
  · obtain ⟨g, rfl⟩ := guarded h
    simp only [Bool.and_eq_true] at g
    obtain ⟨n, hn⟩ := k73b _ _ (okBl_of g.1).2 (Nat.eq_of_beq_eq_true g.2)
    exact ⟨n, .inl hn⟩
  · obtain ⟨g, rfl⟩ := guarded h
    obtain ⟨h1, h2⟩ := okWb_of g
    obtain ⟨n, hn⟩ := k73c _ _ _ _ h1 h2
    exact ⟨n, .inl hn⟩
  · cases h

theorem v71 : ∀ args blk r, s71 args blk = (true, r) → ∃ n, runF E (callOf L73) n 71 args blk = some r ∨ run E n 71 args blk = (true, r) := by
  intro args blk r h
  unfold s71 at h
  split at h
  · obtain ⟨g, rfl⟩ := guarded h
    simp only [Bool.and_eq_true] at g
    obtain ⟨n, hn⟩ := k71 _ g.1 (pd_of g.2)
    exact ⟨n, .inl hn⟩
  · cases h

theorem v51 : ∀ args blk r, s51 args blk = (true, r) → ∃ n, runF E (callOf L71) n 51 args blk = some r ∨ run E n 51 args blk = (true, r) := by
  intro args blk r h
  unfold s51 at h
  split at h
  · obtain ⟨g, rfl⟩ := guarded h
    exact ⟨1, .inl (k51 _ g)⟩
  · cases h

theorem v46 : ∀ args blk r, s46 args blk = (true, r) → ∃ n, runF E (callOf L51) n 46 args blk = some r ∨ run E n 46 args blk = (true, r) := by
  intro args blk r h
  unfold s46 at h
  split at h
  · obtain ⟨g, rfl⟩ := guarded h
    simp only [Bool.and_eq_true] at g
    exact ⟨1, .inl (k46 _ g.1 (pd_of g.2))⟩
  · cases h

theorem v77 : ∀ args blk r, s77 args blk = (true, r) → ∃ n, runF E (callOf L46) n 77 args blk = some r ∨ run E n 77 args blk = (true, r) := by
  intro args blk r h
  unfold s77 at h
  split at h
  · obtain ⟨g, rfl⟩ := guarded h
    simp only [Bool.and_eq_true] at g
    obtain ⟨h1, h2, h3, h4⟩ := okRx_of g.2
    exact ⟨1, .inl (k77 _ _ _ g.1 h2 h3 h1 h4)⟩
  · cases h

theorem v63 : ∀ args blk r, s63 args blk = (true, r) → ∃ n, runF E (callOf L77) n 63 args blk = some r ∨ run E n 63 args blk = (true, r) := by
  intro args blk r h
  unfold s63 at h
  split at h
  · obtain ⟨g, rfl⟩ := guarded h
    simp only [Bool.and_eq_true] at g
    obtain ⟨h1, h2, h3, h4⟩ := okRx_of g.2
    exact ⟨1, .inl (k63 _ _ _ g.1 h2 h3 h1 h4)⟩
  · obtain ⟨g, rfl⟩ := guarded h
    simp only [Bool.and_eq_true] at g
    obtain ⟨h1, h2, h3, h4⟩ := okRx_of g.2.1
    obtain ⟨hn, hx⟩ := okMx_of g.2.2.1
    exact ⟨1, .inl (k63b _ _ _ _ _ g.1 h2 h3 h1 h4 hn (pd_of g.2.2.2))⟩
  · cases h

theorem v74 : ∀ args blk r, s74 args blk = (true, r) → ∃ n, runF E (callOf L63) n 74 args blk = some r ∨ run E n 74 args blk = (true, r) := by
  intro args blk r h
  unfold s74 at h
  split at h
  · obtain ⟨g, rfl⟩ := guarded h
    simp only [Bool.and_eq_true] at g
    obtain ⟨g1, g2, g3, g4⟩ := g
    exact ⟨1, .inl (k74 _ _ _ g1 (okBl_of g2).1 (okBl_of g2).2 (pd_of g3) (pd_of g4))⟩
  · cases h

theorem v52 : ∀ args blk r, s52 args blk = (true, r) → ∃ n, runF E (callOf L74) n 52 args blk = some r ∨ run E n 52 args blk = (true, r) := by
  intro args blk r h
  unfold s52 at h
  split at h
  · obtain ⟨g, rfl⟩ := guarded h
    simp only [Bool.and_eq_true] at g
    obtain ⟨n, hn⟩ := k52 _ _ g.1 (okBl_of g.2).1 (okBl_of g.2).2
    exact ⟨n, .inl hn⟩
  · cases h

theorem v49 : ∀ args blk r, s49 args blk = (true, r) → ∃ n, runF E (callOf L52) n 49 args blk = some r ∨ run E n 49 args blk = (true, r) := by
  intro args blk r h
  unfold s49 at h
  split at h
  · obtain ⟨g, rfl⟩ := guarded h
    obtain ⟨n, hn⟩ := k49 _ (okBl_of g).2
    exact ⟨n, .inl hn⟩
  · cases h

theorem v12 : ∀ args blk r, s12 args blk = (true, r) → ∃ n, runF E (callOf L49) n 12 args blk = some r ∨ run E n 12 args blk = (true, r) := by
  intro args blk r h
  unfold s12 at h
  split at h
  · obtain ⟨g, rfl⟩ := guarded h
    exact ⟨1, .inl (k12 _)⟩
  · cases h

theorem v32 : ∀ args blk r, s32 args blk = (true, r) → ∃ n, runF E (callOf L12) n 32 args blk = some r ∨ run E n 32 args blk = (true, r) := by
  intro args blk r h
  unfold s32 at h
  split at h
  · obtain ⟨g, rfl⟩ := guarded h
    exact ⟨1, .inl (k32 _ _ ⟨_, _, _, _, _, _⟩ g)⟩
  · obtain ⟨g, rfl⟩ := guarded h
    exact ⟨1, .inl (e32_c1 0)⟩
  · cases h

theorem v38 : ∀ args blk r, s38 args blk = (true, r) → ∃ n, runF E (callOf L32) n 38 args blk = some r ∨ run E n 38 args blk = (true, r) := by
  intro args blk r h
  unfold s38 at h
  split at h
  · obtain ⟨g, rfl⟩ := guarded h
    exact ⟨1, .inl (k38 _ _ ⟨_, _, _, _, _, _⟩)⟩
  · cases h

theorem v44 : ∀ args blk r, s44 args blk = (true, r) → ∃ n, runF E (callOf L38) n 44 args blk = some r ∨ run E n 44 args blk = (true, r) := by
  intro args blk r h
  unfold s44 at h
  split at h
  · obtain ⟨g, rfl⟩ := guarded h
    exact ⟨1, .inl (k44 _ _ _ _ ⟨_, _, _, _, _, _⟩ g)⟩
  · cases h

theorem v35 : ∀ args blk r, s35 args blk = (true, r) → ∃ n, runF E (callOf L44) n 35 args blk = some r ∨ run E n 35 args blk = (true, r) := by
  intro args blk r h
  unfold s35 at h
  split at h
  · obtain ⟨g, rfl⟩ := guarded h
    exact ⟨1, .inl (k35 _ _ _ _ ⟨_, _, _, _, _, _⟩ g)⟩
  · cases h

theorem v36 : ∀ args blk r, s36 args blk = (true, r) → ∃ n, runF E (callOf L35) n 36 args blk = some r ∨ run E n 36 args blk = (true, r) := by
  intro args blk r h
  unfold s36 at h
  split at h
  · obtain ⟨g, rfl⟩ := guarded h
    simp only [Bool.and_eq_true] at g
    obtain ⟨h1, h2⟩ := okWx_of g.2
    obtain ⟨n, hn⟩ := k36 _ _ _ _ ⟨_, _, _, _, _, _⟩ g.1 h1 h2
    exact ⟨n, .inl hn⟩
  · cases h

theorem v20 : ∀ args blk r, s20 args blk = (true, r) → ∃ n, runF E (callOf L36) n 20 args blk = some r ∨ run E n 20 args blk = (true, r) := by
  intro args blk r h
  unfold s20 at h
  split at h
  · obtain ⟨g, rfl⟩ := guarded h
    obtain ⟨n, hn⟩ := k20 _ _ ⟨_, _, _, _, _, _⟩ g
    exact ⟨n, .inl hn⟩
  · cases h

theorem v39 : ∀ args blk r, s39 args blk = (true, r) → ∃ n, runF E (callOf L20) n 39 args blk = some r ∨ run E n 39 args blk = (true, r) := by
  intro args blk r h
  unfold s39 at h
  split at h
  · obtain ⟨g, rfl⟩ := guarded h
    exact ⟨1, .inl (k39 _ _ _ ⟨_, _, _, _, _, _⟩)⟩
  · cases h

theorem v40 : ∀ args blk r, s40 args blk = (true, r) → ∃ n, runF E (callOf L39) n 40 args blk = some r ∨ run E n 40 args blk = (true, r) := by
  intro args blk r h
  unfold s40 at h
  split at h
  · obtain ⟨g, rfl⟩ := guarded h
    obtain ⟨n, hn⟩ := k40 _ _ _ _ ⟨_, _, _, _, _, _⟩ g
    exact ⟨n, .inl hn⟩
  · cases h

theorem v24 : ∀ args blk r, s24 args blk = (true, r) → ∃ n, runF E (callOf L40) n 24 args blk = some r ∨ run E n 24 args blk = (true, r) := by
  intro args blk r h
  unfold s24 at h
  split at h
  · obtain ⟨g, rfl⟩ := guarded h
    exact ⟨1, .inl (k24 _ _ ⟨_, _, _, _, _, _⟩ g)⟩
  · cases h

theorem v70 : ∀ args blk r, s70 args blk = (true, r) → ∃ n, runF E (callOf L24) n 70 args blk = some r ∨ run E n 70 args blk = (true, r) := by
  intro args blk r h
  unfold s70 at h
  split at h
  · obtain ⟨g, rfl⟩ := guarded h
    exact ⟨1, .inl (k70 _ _ ⟨_, _, _, _, _, _⟩ g)⟩
  · cases h

theorem v45 : ∀ args blk r, s45 args blk = (true, r) → ∃ n, runF E (callOf L70) n 45 args blk = some r ∨ run E n 45 args blk = (true, r) := by
  intro args blk r h
  unfold s45 at h
  split at h
  · obtain ⟨g, rfl⟩ := guarded h
    simp only [Bool.and_eq_true] at g
    exact ⟨1, .inl (k45 _ _ _ ⟨_, _, _, _, _, _⟩ ⟨_, _, _, _, _⟩ g.1 g.2)⟩
  · cases h

theorem v47 : ∀ args blk r, s47 args blk = (true, r) → ∃ n, runF E (callOf L45) n 47 args blk = some r ∨ run E n 47 args blk = (true, r) := by
  intro args blk r h
  unfold s47 at h
  split at h
  · obtain ⟨g, rfl⟩ := guarded h
    simp only [Bool.and_eq_true] at g
    exact ⟨1, .inl (k47 _ _ _ ⟨_, _, _, _, _, _⟩ ⟨_, _, _, _, _⟩ g.1 g.2)⟩
  · cases h

theorem v48 : ∀ args blk r, s48 args blk = (true, r) → ∃ n, runF E (callOf L47) n 48 args blk = some r ∨ run E n 48 args blk = (true, r) := by
  intro args blk r h
  unfold s48 at h
  split at h
  · obtain ⟨g, rfl⟩ := guarded h
    exact ⟨1, .inl (k48 _ _ ⟨_, _, _, _, _, _⟩ ⟨_, _, _, _, _⟩ g)⟩
  · cases h

theorem v50 : ∀ args blk r, s50 args blk = (true, r) → ∃ n, runF E (callOf L48) n 50 args blk = some r ∨ run E n 50 args blk = (true, r) := by
  intro args blk r h
  unfold s50 at h
  split at h
  · obtain ⟨g, rfl⟩ := guarded h
    simp only [Bool.and_eq_true] at g
    exact ⟨1, .inl (k50 _ _ _ _ ⟨_, _, _, _, _, _⟩ ⟨_, _, _, _, _⟩ g.1 g.2)⟩
  · cases h

theorem v22 : ∀ args blk r, s22 args blk = (true, r) → ∃ n, runF E (callOf L50) n 22 args blk = some r ∨ run E n 22 args blk = (true, r) := by
  intro args blk r h
  unfold s22 at h
  split at h
  · obtain ⟨g, rfl⟩ := guarded h
    simp only [Bool.and_eq_true] at g
    exact ⟨1, .inl (k22 _ _ ⟨_, _, _, _, _, _⟩ g.1 (pd_of g.2.1) (eq_of_beq g.2.2))⟩
  · cases h

theorem v59 : ∀ args blk r, s59 args blk = (true, r) → ∃ n, runF E (callOf L22) n 59 args blk = some r ∨ run E n 59 args blk = (true, r) := by
  intro args blk r h
  unfold s59 at h
  split at h
  · obtain ⟨g, rfl⟩ := guarded h
    obtain ⟨n, hn⟩ := k59 _ g
    exact ⟨n, .inl hn⟩
  · cases h

theorem v28 : ∀ args blk r, s28 args blk = (true, r) → ∃ n, runF E (callOf L59) n 28 args blk = some r ∨ run E n 28 args blk = (true, r) := by
  intro args blk r h
  unfold s28 at h
  split at h
  · obtain ⟨g, rfl⟩ := guarded h
    exact ⟨1, .inl (k28 _ _ ⟨_, _, _, _, _, _⟩ ⟨_, _, _, _, _⟩ g)⟩
  · obtain ⟨g, rfl⟩ := guarded h
    exact ⟨1, .inl (e28_c1 0)⟩
  · cases h

theorem v29 : ∀ args blk r, s29 args blk = (true, r) → ∃ n, runF E (callOf L28) n 29 args blk = some r ∨ run E n 29 args blk = (true, r) := by
  intro args blk r h
  unfold s29 at h
  split at h
  · obtain ⟨g, rfl⟩ := guarded h
    exact ⟨1, .inl (k29 _ _ ⟨_, _, _, _, _, _⟩ ⟨_, _, _, _, _⟩)⟩
  · obtain ⟨g, rfl⟩ := guarded h
    exact ⟨1, .inl (e29_c1 0)⟩
  · cases h

theorem v30 : ∀ args blk r, s30 args blk = (true, r) → ∃ n, runF E (callOf L29) n 30 args blk = some r ∨ run E n 30 args blk = (true, r) := by
  intro args blk r h
  unfold s30 at h
  split at h
  · obtain ⟨g, rfl⟩ := guarded h
    simp only [Bool.and_eq_true] at g
    exact ⟨1, .inl (k30 _ _ ⟨_, _, _, _, _, _⟩ ⟨_, _, _, _, _⟩ g.1 g.2)⟩
  · obtain ⟨g, rfl⟩ := guarded h
    exact ⟨1, .inl (e30_c1 0)⟩
  · cases h

theorem v61 : ∀ args blk r, s61 args blk = (true, r) → ∃ n, runF E (callOf L30) n 61 args blk = some r ∨ run E n 61 args blk = (true, r) := by
  intro args blk r h
  unfold s61 at h
  split at h
  · obtain ⟨g, rfl⟩ := guarded h
    exact ⟨1, .inl (k61 _ _ ⟨_, _, _, _, _, _⟩ ⟨_, _, _, _, _⟩)⟩
  · obtain ⟨g, rfl⟩ := guarded h
    exact ⟨1, .inl (e61_c1 0)⟩
  · cases h

theorem v62 : ∀ args blk r, s62 args blk = (true, r) → ∃ n, runF E (callOf L61) n 62 args blk = some r ∨ run E n 62 args blk = (true, r) := by
  intro args blk r h
  unfold s62 at h
  split at h
  · obtain ⟨g, rfl⟩ := guarded h
    exact ⟨1, .inl (k62 _)⟩
  · cases h

theorem v33 : ∀ args blk r, s33 args blk = (true, r) → ∃ n, runF E (callOf L62) n 33 args blk = some r ∨ run E n 33 args blk = (true, r) := by
  intro args blk r h
  unfold s33 at h
  split at h
  · obtain ⟨g, rfl⟩ := guarded h
    simp only [Bool.and_eq_true] at g
    exact ⟨1, .inl (k33w _ _ _ ⟨_, _, _, _, _, _⟩ ⟨_, _, _, _, _⟩ g.1.1 g.1.2 g.2)⟩
  · obtain ⟨g, rfl⟩ := guarded h
    exact ⟨1, .inl (e33_c1 0 _)⟩
  · obtain ⟨g, rfl⟩ := guarded h
    simp only [Bool.and_eq_true] at g
    exact ⟨1, .inl (k33_2 _ _ ⟨_, _, _, _, _, _⟩ ⟨_, _, _, _, _⟩ g.1.1 g.1.2 g.2)⟩
  · cases h

theorem v34 : ∀ args blk r, s34 args blk = (true, r) → ∃ n, runF E (callOf L33) n 34 args blk = some r ∨ run E n 34 args blk = (true, r) := by
  intro args blk r h
  unfold s34 at h
  split at h
  · obtain ⟨g, rfl⟩ := guarded h
    simp only [Bool.and_eq_true] at g
    obtain ⟨n, hn⟩ := k34 _ _ _ ⟨_, _, _, _, _, _⟩ ⟨_, _, _, _, _⟩ g.1.1 g.1.2 g.2
    exact ⟨n, .inl hn⟩
  · obtain ⟨g, rfl⟩ := guarded h
    exact ⟨1, .inl (e34_c1 0)⟩
  · obtain ⟨g, rfl⟩ := guarded h
    simp only [Bool.and_eq_true] at g
    obtain ⟨n, hn⟩ := k34_2 _ _ ⟨_, _, _, _, _, _⟩ ⟨_, _, _, _, _⟩ g.1.1 g.1.2 g.2
    exact ⟨n, .inl hn⟩
  · cases h

theorem v15 : ∀ args blk r, s15 args blk = (true, r) → ∃ n, runF E (callOf L34) n 15 args blk = some r ∨ run E n 15 args blk = (true, r) := by
  intro args blk r h
  unfold s15 at h
  split at h
  · obtain ⟨g, rfl⟩ := guarded h
    simp only [Bool.and_eq_true] at g
    exact ⟨1, .inl (k15 _ _ (pd_of g.1) (pd_of g.2))⟩
  · cases h

theorem v27 : ∀ args blk r, s27 args blk = (true, r) → ∃ n, runF E (callOf L15) n 27 args blk = some r ∨ run E n 27 args blk = (true, r) := by
  intro args blk r h
  unfold s27 at h
  split at h
  · obtain ⟨g, rfl⟩ := guarded h
    obtain ⟨n, hn⟩ := k27 _ _ (pd_of g)
    exact ⟨n, .inl hn⟩
  · cases h

theorem v18 : ∀ args blk r, s18 args blk = (true, r) → ∃ n, runF E (callOf L27) n 18 args blk = some r ∨ run E n 18 args blk = (true, r) := by
  intro args blk r h
  unfold s18 at h
  split at h
  · obtain ⟨g, rfl⟩ := guarded h
    simp only [Bool.and_eq_true] at g
    obtain ⟨n, hn⟩ := k18 _ _ (pd_of g.1) (pd_of g.2)
    exact ⟨n, .inl hn⟩
  · cases h

theorem v26 : ∀ args blk r, s26 args blk = (true, r) → ∃ n, runF E (callOf L18) n 26 args blk = some r ∨ run E n 26 args blk = (true, r) := by
  intro args blk r h
  unfold s26 at h
  split at h
  · obtain ⟨g, rfl⟩ := guarded h
    exact ⟨1, .inl k26⟩
  · cases h

theorem v4 : ∀ args blk r, s4 args blk = (true, r) → ∃ n, runF E (callOf L26) n 4 args blk = some r ∨ run E n 4 args blk = (true, r) := by
  intro args blk r h
  unfold s4 at h
  split at h
  · obtain ⟨g, rfl⟩ := guarded h
    obtain ⟨n, hn⟩ := k4 _ _ g
    exact ⟨n, .inl hn⟩
  · cases h

theorem v5 : ∀ args blk r, s5 args blk = (true, r) → ∃ n, runF E (callOf L4) n 5 args blk = some r ∨ run E n 5 args blk = (true, r) := by
  intro args blk r h
  unfold s5 at h
  split at h
  · obtain ⟨g, rfl⟩ := guarded h
    simp only [Bool.and_eq_true] at g
    obtain ⟨n, hn⟩ := k5 _ _ g.1 g.2
    exact ⟨n, .inl hn⟩
  · cases h

theorem v10 : ∀ args blk r, s10 args blk = (true, r) → ∃ n, runF E (callOf L5) n 10 args blk = some r ∨ run E n 10 args blk = (true, r) := by
  intro args blk r h
  unfold s10 at h
  split at h
  · obtain ⟨g, rfl⟩ := guarded h
    obtain ⟨n, hn⟩ := k10 _ _ _ g
    exact ⟨n, .inl hn⟩
  · cases h

theorem v6 : ∀ args blk r, s6 args blk = (true, r) → ∃ n, runF E (callOf L10) n 6 args blk = some r ∨ run E n 6 args blk = (true, r) := by
  intro args blk r h
  unfold s6 at h
  split at h
  · obtain ⟨g, rfl⟩ := guarded h
    simp only [Bool.and_eq_true] at g
    obtain ⟨n, hn⟩ := k6 _ _ _ _ g.1 g.2
    exact ⟨n, .inl hn⟩
  · cases h

theorem v22b : ∀ args blk r, s22b args blk = (true, r) → ∃ n, runF E (callOf L6) n 22 args blk = some r ∨ run E n 22 args blk = (true, r) := by
  intro args blk r h
  unfold s22b at h
  split at h
  · obtain ⟨g, rfl⟩ := guarded h
    simp only [Bool.and_eq_true] at g
    exact ⟨1, .inl (k22z _ _ ⟨_, _, _, _, _, _⟩ g.1 (pd_of g.2))⟩
  · cases h

theorem v9 : ∀ args blk r, s9 args blk = (true, r) → ∃ n, runF E (callOf L22b) n 9 args blk = some r ∨ run E n 9 args blk = (true, r) := by
  intro args blk r h
  unfold s9 at h
  split at h
  · obtain ⟨g, rfl⟩ := guarded h
    simp only [Bool.and_eq_true] at g
    obtain ⟨n, hn⟩ := k9 _ _ _ _ _ _ _ g.1 g.2
    exact ⟨n, .inl hn⟩
  · cases h

theorem valid : Valid E L := trivial
theorem valid11 : Valid E L11 := ⟨v11, valid⟩
theorem valid72 : Valid E L72 := ⟨v72, valid11⟩
theorem valid73 : Valid E L73 := ⟨v73, valid72⟩
theorem valid71 : Valid E L71 := ⟨v71, valid73⟩
theorem valid51 : Valid E L51 := ⟨v51, valid71⟩
theorem valid46 : Valid E L46 := ⟨v46, valid51⟩
theorem valid77 : Valid E L77 := ⟨v77, valid46⟩
theorem valid63 : Valid E L63 := ⟨v63, valid77⟩
theorem valid74 : Valid E L74 := ⟨v74, valid63⟩
theorem valid52 : Valid E L52 := ⟨v52, valid74⟩
theorem valid49 : Valid E L49 := ⟨v49, valid52⟩
theorem valid12 : Valid E L12 := ⟨v12, valid49⟩
theorem valid32 : Valid E L32 := ⟨v32, valid12⟩
theorem valid38 : Valid E L38 := ⟨v38, valid32⟩
theorem valid44 : Valid E L44 := ⟨v44, valid38⟩
theorem valid35 : Valid E L35 := ⟨v35, valid44⟩
theorem valid36 : Valid E L36 := ⟨v36, valid35⟩
theorem valid20 : Valid E L20 := ⟨v20, valid36⟩
theorem valid39 : Valid E L39 := ⟨v39, valid20⟩
theorem valid40 : Valid E L40 := ⟨v40, valid39⟩
theorem valid24 : Valid E L24 := ⟨v24, valid40⟩
theorem valid70 : Valid E L70 := ⟨v70, valid24⟩
theorem valid45 : Valid E L45 := ⟨v45, valid70⟩
theorem valid47 : Valid E L47 := ⟨v47, valid45⟩
theorem valid48 : Valid E L48 := ⟨v48, valid47⟩
theorem valid50 : Valid E L50 := ⟨v50, valid48⟩
theorem valid22 : Valid E L22 := ⟨v22, valid50⟩
theorem valid59 : Valid E L59 := ⟨v59, valid22⟩
theorem valid28 : Valid E L28 := ⟨v28, valid59⟩
theorem valid29 : Valid E L29 := ⟨v29, valid28⟩
theorem valid30 : Valid E L30 := ⟨v30, valid29⟩
theorem valid61 : Valid E L61 := ⟨v61, valid30⟩
theorem valid62 : Valid E L62 := ⟨v62, valid61⟩
theorem valid33 : Valid E L33 := ⟨v33, valid62⟩
theorem valid34 : Valid E L34 := ⟨v34, valid33⟩
theorem valid15 : Valid E L15 := ⟨v15, valid34⟩
theorem valid27 : Valid E L27 := ⟨v27, valid15⟩
theorem valid18 : Valid E L18 := ⟨v18, valid27⟩
theorem valid26 : Valid E L26 := ⟨v26, valid18⟩
theorem valid4 : Valid E L4 := ⟨v4, valid26⟩
theorem valid5 : Valid E L5 := ⟨v5, valid4⟩
theorem valid10 : Valid E L10 := ⟨v10, valid5⟩
theorem valid6 : Valid E L6 := ⟨v6, valid10⟩
theorem valid22b : Valid E L22b := ⟨v22b, valid6⟩
theorem valid9 : Valid E L9 := ⟨v9, valid22b⟩

theorem okB_wf {x : List (List Cell)} (h : Cell.Wf E (.slice 5 x)) : okB x = true := by
  obtain ⟨h1, _, h3⟩ := wf_slice (ks := [.int .u8]) h (by kernel_rfl)
  refine List.all_eq_true.2 fun r hr => ?_
  obtain ⟨c, r', rfl, hc, hr'⟩ := row_cons (h1 r hr)
  obtain ⟨n, rfl⟩ := kind_int hc
  obtain rfl := row_nil hr'
  have := wf_u8 (h3 _ hr _ List.mem_cons_self)
  simp only [isByte, Bool.and_eq_true, decide_eq_true_eq]
  omega

theorem arg_wf {c : List (List Cell)} (h : Cell.Wf E (.slice 22 c)) : okArg c = true := by
  obtain ⟨h1, h2, h3⟩ := wf_slice (ks := [.slice 5]) h (by kernel_rfl)
  have key : ∀ r ∈ c, okB (nl r 0) = true := fun r hr => by
    obtain ⟨c0, r0, rfl, e0, q0⟩ := row_cons (h1 r hr)
    obtain ⟨l, rfl⟩ := kind_slice e0
    exact okB_wf (h3 _ hr (.slice 5 l) (by simp))
  unfold okArg
  rw [List.all_eq_true.2 key]
  exact and_mk (pd_t (by unfold maxLen at h2; omega)) rfl

theorem okY_wf {n : Int} (h : Cell.Wf E (.int .u8 n)) : okY n = true := by
  have := wf_u8 h
  exact and_mk (pd_t (by omega)) (pd_t (by omega))

end Go.Proofs.Ytpafnokcmhlbgaa
