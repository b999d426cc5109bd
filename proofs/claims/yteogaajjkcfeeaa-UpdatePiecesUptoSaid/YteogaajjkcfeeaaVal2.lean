/-
  The contracts, one on top of the other.
-/
import Derived.Test.YteogaajjkcfeeaaVal
import Derived.Test.YteogaajjkcfeeaaLawC
namespace Go.Proofs.Yteogaajjkcfeeaa
open Go.Abs

theorem v36 : ∀ args blk r, s36 args blk = (true, r) → ∃ n, runF E (callOf L6) n 36 args blk = some r ∨ run E n 36 args blk = (true, r) := by
  intro args blk r h
  unfold s36 at h
  split at h
  · obtain ⟨g, rfl⟩ := guarded h
    obtain ⟨n, hn⟩ := k36 _ _ g
    exact ⟨n, .inl hn⟩
  · cases h

theorem v55 : ∀ args blk r, s55 args blk = (true, r) → ∃ n, runF E (callOf L36) n 55 args blk = some r ∨ run E n 55 args blk = (true, r) := by
  intro args blk r h
  unfold s55 at h
  split at h
  · obtain ⟨g, rfl⟩ := guarded h
    obtain ⟨n, hn⟩ := k55 _ _ g
    exact ⟨n, .inl hn⟩
  · cases h

theorem v37 : ∀ args blk r, s37 args blk = (true, r) → ∃ n, runF E (callOf L55) n 37 args blk = some r ∨ run E n 37 args blk = (true, r) := by
  intro args blk r h
  unfold s37 at h
  split at h
  · obtain ⟨g, rfl⟩ := guarded h
    exact ⟨1, .inl (k37 _ _ g)⟩
  · cases h

theorem v42 : ∀ args blk r, s42 args blk = (true, r) → ∃ n, runF E (callOf L37) n 42 args blk = some r ∨ run E n 42 args blk = (true, r) := by
  intro args blk r h
  unfold s42 at h
  split at h
  · obtain ⟨g, rfl⟩ := guarded h
    exact ⟨1, .inl (k42 _ _ g)⟩
  · cases h

theorem v56 : ∀ args blk r, s56 args blk = (true, r) → ∃ n, runF E (callOf L42) n 56 args blk = some r ∨ run E n 56 args blk = (true, r) := by
  intro args blk r h
  unfold s56 at h
  split at h
  · obtain ⟨g, rfl⟩ := guarded h
    exact ⟨1, .inl (k56 _ g)⟩
  · cases h

theorem v38 : ∀ args blk r, s38 args blk = (true, r) → ∃ n, runF E (callOf L56) n 38 args blk = some r ∨ run E n 38 args blk = (true, r) := by
  intro args blk r h
  unfold s38 at h
  split at h
  · obtain ⟨g, rfl⟩ := guarded h
    exact ⟨1, .inl (k38 _ _ g)⟩
  · cases h

theorem v43 : ∀ args blk r, s43 args blk = (true, r) → ∃ n, runF E (callOf L38) n 43 args blk = some r ∨ run E n 43 args blk = (true, r) := by
  intro args blk r h
  unfold s43 at h
  split at h
  · obtain ⟨g, rfl⟩ := guarded h
    exact ⟨1, .inl (k43 _ _ g)⟩
  · cases h

theorem v24 : ∀ args blk r, s24 args blk = (true, r) → ∃ n, runF E (callOf L43) n 24 args blk = some r ∨ run E n 24 args blk = (true, r) := by
  intro args blk r h
  unfold s24 at h
  split at h
  · obtain ⟨g, rfl⟩ := guarded h
    obtain ⟨n, hn⟩ := k24 _ _ _ _ _ g
    exact ⟨n, .inl hn⟩
  · obtain ⟨g, rfl⟩ := guarded h
    obtain ⟨n, hn⟩ := k24c _ _ _ _ g
    exact ⟨n, .inl hn⟩
  · cases h

theorem v41 : ∀ args blk r, s41 args blk = (true, r) → ∃ n, runF E (callOf L24) n 41 args blk = some r ∨ run E n 41 args blk = (true, r) := by
  intro args blk r h
  unfold s41 at h
  split at h
  · obtain ⟨g, rfl⟩ := guarded h
    obtain ⟨n, hn⟩ := k41 _ _ g
    exact ⟨n, .inl hn⟩
  · cases h

theorem v26 : ∀ args blk r, s26 args blk = (true, r) → ∃ n, runF E (callOf L41) n 26 args blk = some r ∨ run E n 26 args blk = (true, r) := by
  intro args blk r h
  unfold s26 at h
  split at h
  · obtain ⟨g, rfl⟩ := guarded h
    obtain ⟨n, hn⟩ := k26 _ _ _ _ _ g
    exact ⟨n, .inl hn⟩
  · obtain ⟨g, rfl⟩ := guarded h
    obtain ⟨n, hn⟩ := k26c _ _ _ _ g
    exact ⟨n, .inl hn⟩
  · cases h

theorem v51 : ∀ args blk r, s51 args blk = (true, r) → ∃ n, runF E (callOf L26) n 51 args blk = some r ∨ run E n 51 args blk = (true, r) := by
  intro args blk r h
  unfold s51 at h
  split at h
  · obtain ⟨g, rfl⟩ := guarded h
    obtain ⟨n, hn⟩ := k51 _ g
    exact ⟨n, .inl hn⟩
  · cases h

theorem v63 : ∀ args blk r, s63 args blk = (true, r) → ∃ n, runF E (callOf L51) n 63 args blk = some r ∨ run E n 63 args blk = (true, r) := by
  intro args blk r h
  unfold s63 at h
  split at h
  · obtain ⟨g, rfl⟩ := guarded h
    obtain ⟨n, hn⟩ := k63 _ g
    exact ⟨n, .inl hn⟩
  · cases h

theorem v62 : ∀ args blk r, s62 args blk = (true, r) → ∃ n, runF E (callOf L63) n 62 args blk = some r ∨ run E n 62 args blk = (true, r) := by
  intro args blk r h
  unfold s62 at h
  split at h
  · obtain ⟨g, rfl⟩ := guarded h
    exact ⟨1, .inl (k62 _ g)⟩
  · cases h

theorem v59 : ∀ args blk r, s59 args blk = (true, r) → ∃ n, runF E (callOf L62) n 59 args blk = some r ∨ run E n 59 args blk = (true, r) := by
  intro args blk r h
  unfold s59 at h
  split at h
  · obtain ⟨g, rfl⟩ := guarded h
    exact ⟨1, .inl (k59 _ g)⟩
  · cases h

theorem v61 : ∀ args blk r, s61 args blk = (true, r) → ∃ n, runF E (callOf L59) n 61 args blk = some r ∨ run E n 61 args blk = (true, r) := by
  intro args blk r h
  unfold s61 at h
  split at h
  · obtain ⟨g, rfl⟩ := guarded h
    exact ⟨1, .inl (k61 _ g)⟩
  · cases h

theorem v58 : ∀ args blk r, s58 args blk = (true, r) → ∃ n, runF E (callOf L61) n 58 args blk = some r ∨ run E n 58 args blk = (true, r) := by
  intro args blk r h
  unfold s58 at h
  split at h
  · obtain ⟨g, rfl⟩ := guarded h
    exact ⟨1, .inl (k58 _ g)⟩
  · cases h

theorem v57 : ∀ args blk r, s57 args blk = (true, r) → ∃ n, runF E (callOf L58) n 57 args blk = some r ∨ run E n 57 args blk = (true, r) := by
  intro args blk r h
  unfold s57 at h
  split at h
  · obtain ⟨g, rfl⟩ := guarded h
    exact ⟨1, .inl (k57 _ g)⟩
  · cases h

theorem v52 : ∀ args blk r, s52 args blk = (true, r) → ∃ n, runF E (callOf L57) n 52 args blk = some r ∨ run E n 52 args blk = (true, r) := by
  intro args blk r h
  unfold s52 at h
  split at h
  · obtain ⟨g, rfl⟩ := guarded h
    exact ⟨1, .inl (k52 _ _ _ _ _ g)⟩
  · cases h

theorem v39 : ∀ args blk r, s39 args blk = (true, r) → ∃ n, runF E (callOf L52) n 39 args blk = some r ∨ run E n 39 args blk = (true, r) := by
  intro args blk r h
  unfold s39 at h
  split at h
  · obtain ⟨g, rfl⟩ := guarded h
    exact ⟨1, .inl (k39 _ _ _ g)⟩
  · cases h

theorem v53 : ∀ args blk r, s53 args blk = (true, r) → ∃ n, runF E (callOf L39) n 53 args blk = some r ∨ run E n 53 args blk = (true, r) := by
  intro args blk r h
  unfold s53 at h
  split at h
  · obtain ⟨g, rfl⟩ := guarded h
    exact ⟨1, .inl (k53 _ _ _ g)⟩
  · cases h

theorem v54 : ∀ args blk r, s54 args blk = (true, r) → ∃ n, runF E (callOf L53) n 54 args blk = some r ∨ run E n 54 args blk = (true, r) := by
  intro args blk r h
  unfold s54 at h
  split at h
  · obtain ⟨g, rfl⟩ := guarded h
    exact ⟨1, .inl (k54 _ _ _ g)⟩
  · cases h

theorem v40 : ∀ args blk r, s40 args blk = (true, r) → ∃ n, runF E (callOf L54) n 40 args blk = some r ∨ run E n 40 args blk = (true, r) := by
  intro args blk r h
  unfold s40 at h
  split at h
  · obtain ⟨g, rfl⟩ := guarded h
    exact ⟨1, .inl (k40 _ _ _ g)⟩
  · cases h

theorem v25 : ∀ args blk r, s25 args blk = (true, r) → ∃ n, runF E (callOf L40) n 25 args blk = some r ∨ run E n 25 args blk = (true, r) := by
  intro args blk r h
  unfold s25 at h
  split at h
  · obtain ⟨g, rfl⟩ := guarded h
    obtain ⟨n, hn⟩ := k25 _ g
    exact ⟨n, .inl hn⟩
  · cases h

theorem v44 : ∀ args blk r, s44 args blk = (true, r) → ∃ n, runF E (callOf L25) n 44 args blk = some r ∨ run E n 44 args blk = (true, r) := by
  intro args blk r h
  unfold s44 at h
  split at h
  · obtain ⟨g, rfl⟩ := guarded h
    obtain ⟨n, hn⟩ := k44 _ _ g
    exact ⟨n, .inl hn⟩
  · cases h

theorem v45 : ∀ args blk r, s45 args blk = (true, r) → ∃ n, runF E (callOf L44) n 45 args blk = some r ∨ run E n 45 args blk = (true, r) := by
  intro args blk r h
  unfold s45 at h
  split at h
  · obtain ⟨g, rfl⟩ := guarded h
    exact ⟨1, .inl (k45 _ g)⟩
  · cases h

theorem v27 : ∀ args blk r, s27 args blk = (true, r) → ∃ n, runF E (callOf L45) n 27 args blk = some r ∨ run E n 27 args blk = (true, r) := by
  intro args blk r h
  unfold s27 at h
  split at h
  · obtain ⟨g, rfl⟩ := guarded h
    obtain ⟨n, hn⟩ := k27 _ g
    exact ⟨n, .inl hn⟩
  · cases h

theorem v48 : ∀ args blk r, s48 args blk = (true, r) → ∃ n, runF E (callOf L27) n 48 args blk = some r ∨ run E n 48 args blk = (true, r) := by
  intro args blk r h
  unfold s48 at h
  split at h
  · obtain ⟨g, rfl⟩ := guarded h
    exact ⟨1, .inl (k48 _ _ (of_decide_eq_true g))⟩
  · cases h

theorem v46 : ∀ args blk r, s46 args blk = (true, r) → ∃ n, runF E (callOf L48) n 46 args blk = some r ∨ run E n 46 args blk = (true, r) := by
  intro args blk r h
  unfold s46 at h
  split at h
  · obtain ⟨g, rfl⟩ := guarded h
    simp only [Bool.and_eq_true, decide_eq_true_eq] at g
    obtain ⟨n, hn⟩ := k46 _ _ _ g.1 g.2
    exact ⟨n, .inl hn⟩
  · cases h

theorem v64 : ∀ args blk r, s64 args blk = (true, r) → ∃ n, runF E (callOf L46) n 64 args blk = some r ∨ run E n 64 args blk = (true, r) := by
  intro args blk r h
  unfold s64 at h
  split at h
  · obtain ⟨g, rfl⟩ := guarded h
    exact ⟨1, .inl (k64 _)⟩
  · cases h

theorem v60 : ∀ args blk r, s60 args blk = (true, r) → ∃ n, runF E (callOf L64) n 60 args blk = some r ∨ run E n 60 args blk = (true, r) := by
  intro args blk r h
  unfold s60 at h
  split at h
  · obtain ⟨g, rfl⟩ := guarded h
    exact ⟨1, .inl (k60 _ _)⟩
  · cases h

theorem v47 : ∀ args blk r, s47 args blk = (true, r) → ∃ n, runF E (callOf L60) n 47 args blk = some r ∨ run E n 47 args blk = (true, r) := by
  intro args blk r h
  unfold s47 at h
  split at h
  · obtain ⟨g, rfl⟩ := guarded h
    obtain ⟨n, hn⟩ := k47 _ _ _
    exact ⟨n, .inl hn⟩
  · cases h

theorem v28 : ∀ args blk r, s28 args blk = (true, r) → ∃ n, runF E (callOf L47) n 28 args blk = some r ∨ run E n 28 args blk = (true, r) := by
  intro args blk r h
  unfold s28 at h
  split at h
  · obtain ⟨g, rfl⟩ := guarded h
    obtain ⟨n, hn⟩ := k28 _ (of_decide_eq_true g)
    exact ⟨n, .inl hn⟩
  · cases h

theorem v7 : ∀ args blk r, s7 args blk = (true, r) → ∃ n, runF E (callOf L28) n 7 args blk = some r ∨ run E n 7 args blk = (true, r) := by
  intro args blk r h
  unfold s7 at h
  split at h
  · obtain ⟨g, rfl⟩ := guarded h
    exact ⟨1, .inl (law7 _ _ _ _ _ g)⟩
  · cases h

theorem v8 : ∀ args blk r, s8 args blk = (true, r) → ∃ n, runF E (callOf L7) n 8 args blk = some r ∨ run E n 8 args blk = (true, r) := by
  intro args blk r h
  unfold s8 at h
  split at h
  · obtain ⟨g, rfl⟩ := guarded h
    exact ⟨1, .inl (law8 _ g)⟩
  · cases h

theorem v9 : ∀ args blk r, s9 args blk = (true, r) → ∃ n, runF E (callOf L8) n 9 args blk = some r ∨ run E n 9 args blk = (true, r) := by
  intro args blk r h
  unfold s9 at h
  split at h
  · obtain ⟨g, rfl⟩ := guarded h
    simp only [Bool.and_eq_true, decide_eq_true_eq] at g
    obtain ⟨n, hn⟩ := law9 _ _ g.1 g.2.1 g.2.2
    exact ⟨n, .inl hn⟩
  · cases h

theorem valid36 : Valid E L36 := ⟨v36, valid6⟩
theorem valid55 : Valid E L55 := ⟨v55, valid36⟩
theorem valid37 : Valid E L37 := ⟨v37, valid55⟩
theorem valid42 : Valid E L42 := ⟨v42, valid37⟩
theorem valid56 : Valid E L56 := ⟨v56, valid42⟩
theorem valid38 : Valid E L38 := ⟨v38, valid56⟩
theorem valid43 : Valid E L43 := ⟨v43, valid38⟩
theorem valid24 : Valid E L24 := ⟨v24, valid43⟩
theorem valid41 : Valid E L41 := ⟨v41, valid24⟩
theorem valid26 : Valid E L26 := ⟨v26, valid41⟩
theorem valid51 : Valid E L51 := ⟨v51, valid26⟩
theorem valid63 : Valid E L63 := ⟨v63, valid51⟩
theorem valid62 : Valid E L62 := ⟨v62, valid63⟩
theorem valid59 : Valid E L59 := ⟨v59, valid62⟩
theorem valid61 : Valid E L61 := ⟨v61, valid59⟩
theorem valid58 : Valid E L58 := ⟨v58, valid61⟩
theorem valid57 : Valid E L57 := ⟨v57, valid58⟩
theorem valid52 : Valid E L52 := ⟨v52, valid57⟩
theorem valid39 : Valid E L39 := ⟨v39, valid52⟩
theorem valid53 : Valid E L53 := ⟨v53, valid39⟩
theorem valid54 : Valid E L54 := ⟨v54, valid53⟩
theorem valid40 : Valid E L40 := ⟨v40, valid54⟩
theorem valid25 : Valid E L25 := ⟨v25, valid40⟩
theorem valid44 : Valid E L44 := ⟨v44, valid25⟩
theorem valid45 : Valid E L45 := ⟨v45, valid44⟩
theorem valid27 : Valid E L27 := ⟨v27, valid45⟩
theorem valid48 : Valid E L48 := ⟨v48, valid27⟩
theorem valid46 : Valid E L46 := ⟨v46, valid48⟩
theorem valid64 : Valid E L64 := ⟨v64, valid46⟩
theorem valid60 : Valid E L60 := ⟨v60, valid64⟩
theorem valid47 : Valid E L47 := ⟨v47, valid60⟩
theorem valid28 : Valid E L28 := ⟨v28, valid47⟩
theorem valid7 : Valid E L7 := ⟨v7, valid28⟩
theorem valid8 : Valid E L8 := ⟨v8, valid7⟩
theorem valid9 : Valid E L9 := ⟨v9, valid8⟩

theorem okB_wf {x : List (List Cell)} (h : Cell.Wf E (.slice 5 x)) : okB x = true := by
  obtain ⟨h1, _, h3⟩ := wf_slice (ks := [.int .u8]) h (by kernel_rfl)
  refine List.all_eq_true.2 fun r hr => ?_
  obtain ⟨c, r', rfl, hc, hr'⟩ := row_cons (h1 r hr)
  obtain ⟨n, rfl⟩ := kind_int hc
  obtain rfl := row_nil hr'
  have := wf_u8 (h3 _ hr _ List.mem_cons_self)
  simp only [isByte, Bool.and_eq_true, decide_eq_true_eq]
  omega

theorem okN_wf {l : List (List Cell)} (h : Cell.Wf E (.slice 23 l)) : l.all (fun e => okI (nr e 3)) = true := by
  obtain ⟨h1, _, h3⟩ := wf_slice (ks := [.int .i64, .str, .str, .int .i64, .str]) h (by kernel_rfl)
  refine List.all_eq_true.2 fun r hr => ?_
  obtain ⟨c0, r0, rfl, _, q0⟩ := row_cons (h1 r hr)
  obtain ⟨c1, r1, rfl, _, q1⟩ := row_cons q0
  obtain ⟨c2, r2, rfl, _, q2⟩ := row_cons q1
  obtain ⟨c3, r3, rfl, e3, _⟩ := row_cons q2
  obtain ⟨n, rfl⟩ := kind_int e3
  have := wf_i64 (h3 _ hr (.int .i64 n) (by simp))
  show okI n = true
  unfold okI
  simp only [Bool.and_eq_true, decide_eq_true_eq]
  omega

end Go.Proofs.Yteogaajjkcfeeaa
