/-
  The contracts, one on top of the other.
-/
import Derived.Test.YtaafnpmijncpeaaLawC
import Derived.Test.YtaafnpmijncpeaaAw
import Derived.Test.YtaafnpmijncpeaaA30
namespace Go.Proofs.Ytaafnpmijncpeaa
open Go.Abs

theorem v24 : ∀ args blk r, s24 args blk = (true, r) → ∃ n, runF E (callOf L) n 24 args blk = some r ∨ run E n 24 args blk = (true, r) := by
  intro args blk r h
  unfold s24 at h
  split at h
  · obtain ⟨g, rfl⟩ := guarded h
    exact ⟨1, .inl (k24 _ _ _ _)⟩
  · cases h

theorem v25 : ∀ args blk r, s25 args blk = (true, r) → ∃ n, runF E (callOf L24) n 25 args blk = some r ∨ run E n 25 args blk = (true, r) := by
  intro args blk r h
  unfold s25 at h
  split at h
  · obtain ⟨g, rfl⟩ := guarded h
    exact ⟨1, .inl (k25 _ _ _)⟩
  · cases h

theorem v26 : ∀ args blk r, s26 args blk = (true, r) → ∃ n, runF E (callOf L25) n 26 args blk = some r ∨ run E n 26 args blk = (true, r) := by
  intro args blk r h
  unfold s26 at h
  split at h
  · obtain ⟨g, rfl⟩ := guarded h
    exact ⟨1, .inl (k26 _)⟩
  · cases h

theorem v28 : ∀ args blk r, s28 args blk = (true, r) → ∃ n, runF E (callOf L26) n 28 args blk = some r ∨ run E n 28 args blk = (true, r) := by
  intro args blk r h
  unfold s28 at h
  split at h
  · obtain ⟨g, rfl⟩ := guarded h
    exact ⟨1, .inl (k28 _)⟩
  · cases h

theorem v27 : ∀ args blk r, s27 args blk = (true, r) → ∃ n, runF E (callOf L28) n 27 args blk = some r ∨ run E n 27 args blk = (true, r) := by
  intro args blk r h
  unfold s27 at h
  split at h
  · obtain ⟨g, rfl⟩ := guarded h
    exact ⟨1, .inl (k27 _ _ _)⟩
  · cases h

theorem v10 : ∀ args blk r, s10 args blk = (true, r) → ∃ n, runF E (callOf L27) n 10 args blk = some r ∨ run E n 10 args blk = (true, r) := by
  intro args blk r h
  unfold s10 at h
  split at h
  · obtain ⟨g, rfl⟩ := guarded h
    exact ⟨1, .inl (k10 _ _ _ _ _ _ _)⟩
  · cases h

theorem v11 : ∀ args blk r, s11 args blk = (true, r) → ∃ n, runF E (callOf L10) n 11 args blk = some r ∨ run E n 11 args blk = (true, r) := by
  intro args blk r h
  unfold s11 at h
  split at h
  · obtain ⟨g, rfl⟩ := guarded h
    exact ⟨6, .inl (k11 _ _ _ _ _ _ _)⟩
  · cases h

theorem v13 : ∀ args blk r, s13 args blk = (true, r) → ∃ n, runF E (callOf L11) n 13 args blk = some r ∨ run E n 13 args blk = (true, r) := by
  intro args blk r h
  unfold s13 at h
  split at h
  · obtain ⟨g, rfl⟩ := guarded h
    obtain ⟨n, hn⟩ := k13 _ _ _ (of_decide_eq_true g)
    exact ⟨n, .inl hn⟩
  · cases h

theorem v14 : ∀ args blk r, s14 args blk = (true, r) → ∃ n, runF E (callOf L13) n 14 args blk = some r ∨ run E n 14 args blk = (true, r) := by
  intro args blk r h
  unfold s14 at h
  split at h
  · obtain ⟨g, rfl⟩ := guarded h
    obtain ⟨n, hn⟩ := k14 _ _ _ (of_decide_eq_true g)
    exact ⟨n, .inl hn⟩
  · cases h

theorem v39 : ∀ args blk r, s39 args blk = (true, r) → ∃ n, runF E (callOf L14) n 39 args blk = some r ∨ run E n 39 args blk = (true, r) := by
  intro args blk r h
  unfold s39 at h
  split at h
  · obtain ⟨g, rfl⟩ := guarded h
    exact ⟨1, .inl (k39 _)⟩
  · cases h

theorem v30 : ∀ args blk r, s30 args blk = (true, r) → ∃ n, runF E (callOf L39) n 30 args blk = some r ∨ run E n 30 args blk = (true, r) := by
  intro args blk r h
  unfold s30 at h
  split at h
  · obtain ⟨g, rfl⟩ := guarded h
    exact ⟨1, .inl (k30 _ _)⟩
  · cases h

theorem v29 : ∀ args blk r, s29 args blk = (true, r) → ∃ n, runF E (callOf L30) n 29 args blk = some r ∨ run E n 29 args blk = (true, r) := by
  intro args blk r h
  unfold s29 at h
  split at h
  · obtain ⟨g, rfl⟩ := guarded h
    obtain ⟨n, hn⟩ := k29 _ (of_decide_eq_true g)
    exact ⟨n, .inl hn⟩
  · cases h

theorem v15 : ∀ args blk r, s15 args blk = (true, r) → ∃ n, runF E (callOf L29) n 15 args blk = some r ∨ run E n 15 args blk = (true, r) := by
  intro args blk r h
  unfold s15 at h
  split at h
  · obtain ⟨g, rfl⟩ := guarded h
    exact ⟨1, .inl (k15 _ _ _ _ _ _)⟩
  · cases h

theorem v16 : ∀ args blk r, s16 args blk = (true, r) → ∃ n, runF E (callOf L15) n 16 args blk = some r ∨ run E n 16 args blk = (true, r) := by
  intro args blk r h
  unfold s16 at h
  split at h
  · obtain ⟨g, rfl⟩ := guarded h
    exact ⟨1, .inl (k16 _ _ _ _ _ _)⟩
  · cases h

theorem v31 : ∀ args blk r, s31 args blk = (true, r) → ∃ n, runF E (callOf L16) n 31 args blk = some r ∨ run E n 31 args blk = (true, r) := by
  intro args blk r h
  unfold s31 at h
  split at h
  · obtain ⟨g, rfl⟩ := guarded h
    exact ⟨1, .inl (k31 _ _ _ _ _ _ _ _ _ _ _ _ _ _)⟩
  · cases h

theorem v17 : ∀ args blk r, s17 args blk = (true, r) → ∃ n, runF E (callOf L31) n 17 args blk = some r ∨ run E n 17 args blk = (true, r) := by
  intro args blk r h
  unfold s17 at h
  split at h
  · obtain ⟨g, rfl⟩ := guarded h
    obtain ⟨n, hn⟩ := k17 _ _ _ _ _ _ (of_decide_eq_true g)
    exact ⟨n, .inl hn⟩
  · cases h

theorem v18 : ∀ args blk r, s18 args blk = (true, r) → ∃ n, runF E (callOf L17) n 18 args blk = some r ∨ run E n 18 args blk = (true, r) := by
  intro args blk r h
  unfold s18 at h
  split at h
  · obtain ⟨g, rfl⟩ := guarded h
    obtain ⟨n, hn⟩ := k18 _ _ _ _ _ _ (of_decide_eq_true g)
    exact ⟨n, .inl hn⟩
  · cases h

theorem v12 : ∀ args blk r, s12 args blk = (true, r) → ∃ n, runF E (callOf L18) n 12 args blk = some r ∨ run E n 12 args blk = (true, r) := by
  intro args blk r h
  unfold s12 at h
  split at h
  · obtain ⟨g, rfl⟩ := guarded h
    exact ⟨200, .inr aw⟩
  · cases h

theorem v3 : ∀ args blk r, s3 args blk = (true, r) → ∃ n, runF E (callOf L12) n 3 args blk = some r ∨ run E n 3 args blk = (true, r) := by
  intro args blk r h
  unfold s3 at h
  split at h
  · obtain ⟨g, rfl⟩ := guarded h
    exact ⟨1, .inl (by rw [e3]; exact ct (by simp) rfl)⟩
  · cases h

theorem v4 : ∀ args blk r, s4 args blk = (true, r) → ∃ n, runF E (callOf L3) n 4 args blk = some r ∨ run E n 4 args blk = (true, r) := by
  intro args blk r h
  unfold s4 at h
  split at h
  · obtain ⟨g, rfl⟩ := guarded h
    exact ⟨1, .inl (law4 _ _ _)⟩
  · cases h

theorem v5 : ∀ args blk r, s5 args blk = (true, r) → ∃ n, runF E (callOf L4) n 5 args blk = some r ∨ run E n 5 args blk = (true, r) := by
  intro args blk r h
  unfold s5 at h
  split at h
  · obtain ⟨g, rfl⟩ := guarded h
    exact ⟨1, .inl (law5 _ _ _ _ _ _ _ _ _)⟩
  · cases h

theorem v6 : ∀ args blk r, s6 args blk = (true, r) → ∃ n, runF E (callOf L5) n 6 args blk = some r ∨ run E n 6 args blk = (true, r) := by
  intro args blk r h
  unfold s6 at h
  split at h
  · obtain ⟨g, rfl⟩ := guarded h
    exact ⟨1, .inl (law6 _ _ _ _ _ _)⟩
  · cases h

theorem v32 : ∀ args blk r, s32 args blk = (true, r) → ∃ n, runF E (callOf L6) n 32 args blk = some r ∨ run E n 32 args blk = (true, r) := by
  intro args blk r h
  unfold s32 at h
  split at h
  · obtain ⟨g, rfl⟩ := guarded h
    obtain ⟨n, hn⟩ := k32 _ _ g
    exact ⟨n, .inl hn⟩
  · cases h

theorem v41 : ∀ args blk r, s41 args blk = (true, r) → ∃ n, runF E (callOf L32) n 41 args blk = some r ∨ run E n 41 args blk = (true, r) := by
  intro args blk r h
  unfold s41 at h
  split at h
  · obtain ⟨g, rfl⟩ := guarded h
    obtain ⟨n, hn⟩ := k41 _ _ g
    exact ⟨n, .inl hn⟩
  · cases h

theorem v40 : ∀ args blk r, s40 args blk = (true, r) → ∃ n, runF E (callOf L41) n 40 args blk = some r ∨ run E n 40 args blk = (true, r) := by
  intro args blk r h
  unfold s40 at h
  split at h
  · obtain ⟨g, rfl⟩ := guarded h
    obtain ⟨n, hn⟩ := k40 _ g
    exact ⟨n, .inl hn⟩
  · cases h

theorem v45 : ∀ args blk r, s45 args blk = (true, r) → ∃ n, runF E (callOf L40) n 45 args blk = some r ∨ run E n 45 args blk = (true, r) := by
  intro args blk r h
  unfold s45 at h
  split at h
  · obtain ⟨g, rfl⟩ := guarded h
    obtain ⟨n, hn⟩ := k45 _ g
    exact ⟨n, .inl hn⟩
  · cases h

theorem v33 : ∀ args blk r, s33 args blk = (true, r) → ∃ n, runF E (callOf L45) n 33 args blk = some r ∨ run E n 33 args blk = (true, r) := by
  intro args blk r h
  unfold s33 at h
  split at h
  · obtain ⟨g, rfl⟩ := guarded h
    exact ⟨1, .inl (k33 _ _ _ g)⟩
  · cases h

theorem v19 : ∀ args blk r, s19 args blk = (true, r) → ∃ n, runF E (callOf L33) n 19 args blk = some r ∨ run E n 19 args blk = (true, r) := by
  intro args blk r h
  unfold s19 at h
  split at h
  · obtain ⟨g, rfl⟩ := guarded h
    obtain ⟨n, hn⟩ := k19 _ _ _ _ g
    exact ⟨n, .inl hn⟩
  · obtain ⟨g, rfl⟩ := guarded h
    obtain ⟨n, hn⟩ := k19c _ _ _ g
    exact ⟨n, .inl hn⟩
  · cases h

theorem v20 : ∀ args blk r, s20 args blk = (true, r) → ∃ n, runF E (callOf L19) n 20 args blk = some r ∨ run E n 20 args blk = (true, r) := by
  intro args blk r h
  unfold s20 at h
  split at h
  · obtain ⟨g, rfl⟩ := guarded h
    obtain ⟨n, hn⟩ := k20 _ g
    exact ⟨n, .inl hn⟩
  · cases h

theorem v42 : ∀ args blk r, s42 args blk = (true, r) → ∃ n, runF E (callOf L20) n 42 args blk = some r ∨ run E n 42 args blk = (true, r) := by
  intro args blk r h
  unfold s42 at h
  split at h
  · obtain ⟨g, rfl⟩ := guarded h
    exact ⟨1, .inl (k42 _ g)⟩
  · cases h

theorem v35 : ∀ args blk r, s35 args blk = (true, r) → ∃ n, runF E (callOf L42) n 35 args blk = some r ∨ run E n 35 args blk = (true, r) := by
  intro args blk r h
  unfold s35 at h
  split at h
  · obtain ⟨g, rfl⟩ := guarded h
    obtain ⟨n, hn⟩ := k35 _ _ g
    exact ⟨n, .inl hn⟩
  · cases h

theorem v34 : ∀ args blk r, s34 args blk = (true, r) → ∃ n, runF E (callOf L35) n 34 args blk = some r ∨ run E n 34 args blk = (true, r) := by
  intro args blk r h
  unfold s34 at h
  split at h
  · obtain ⟨g, rfl⟩ := guarded h
    obtain ⟨n, hn⟩ := k34 _ _ g
    exact ⟨n, .inl hn⟩
  · cases h

theorem v21 : ∀ args blk r, s21 args blk = (true, r) → ∃ n, runF E (callOf L34) n 21 args blk = some r ∨ run E n 21 args blk = (true, r) := by
  intro args blk r h
  unfold s21 at h
  split at h
  · obtain ⟨g, rfl⟩ := guarded h
    obtain ⟨n, hn⟩ := k21 _ _ _ _ g
    exact ⟨n, .inl hn⟩
  · obtain ⟨g, rfl⟩ := guarded h
    obtain ⟨n, hn⟩ := k21c _ _ _ g
    exact ⟨n, .inl hn⟩
  · cases h

theorem v22 : ∀ args blk r, s22 args blk = (true, r) → ∃ n, runF E (callOf L21) n 22 args blk = some r ∨ run E n 22 args blk = (true, r) := by
  intro args blk r h
  unfold s22 at h
  split at h
  · obtain ⟨g, rfl⟩ := guarded h
    obtain ⟨n, hn⟩ := k22 _ g
    exact ⟨n, .inl hn⟩
  · cases h

theorem v43 : ∀ args blk r, s43 args blk = (true, r) → ∃ n, runF E (callOf L22) n 43 args blk = some r ∨ run E n 43 args blk = (true, r) := by
  intro args blk r h
  unfold s43 at h
  split at h
  · obtain ⟨g, rfl⟩ := guarded h
    exact ⟨1, .inl (k43 _ _ (of_decide_eq_true g))⟩
  · cases h

theorem v36 : ∀ args blk r, s36 args blk = (true, r) → ∃ n, runF E (callOf L43) n 36 args blk = some r ∨ run E n 36 args blk = (true, r) := by
  intro args blk r h
  unfold s36 at h
  split at h
  · obtain ⟨g, rfl⟩ := guarded h
    simp only [Bool.and_eq_true, decide_eq_true_eq] at g
    obtain ⟨n, hn⟩ := k36 _ _ _ g.1 g.2
    exact ⟨n, .inl hn⟩
  · cases h

theorem v37 : ∀ args blk r, s37 args blk = (true, r) → ∃ n, runF E (callOf L36) n 37 args blk = some r ∨ run E n 37 args blk = (true, r) := by
  intro args blk r h
  unfold s37 at h
  split at h
  · obtain ⟨g, rfl⟩ := guarded h
    exact ⟨1, .inl (k37 _ _ (of_decide_eq_true g))⟩
  · cases h

theorem v44 : ∀ args blk r, s44 args blk = (true, r) → ∃ n, runF E (callOf L37) n 44 args blk = some r ∨ run E n 44 args blk = (true, r) := by
  intro args blk r h
  unfold s44 at h
  split at h
  · obtain ⟨g, rfl⟩ := guarded h
    exact ⟨1, .inl (k44 _)⟩
  · cases h

theorem v38 : ∀ args blk r, s38 args blk = (true, r) → ∃ n, runF E (callOf L44) n 38 args blk = some r ∨ run E n 38 args blk = (true, r) := by
  intro args blk r h
  unfold s38 at h
  split at h
  · obtain ⟨g, rfl⟩ := guarded h
    exact ⟨1, .inl (k38 _)⟩
  · cases h

theorem v23 : ∀ args blk r, s23 args blk = (true, r) → ∃ n, runF E (callOf L38) n 23 args blk = some r ∨ run E n 23 args blk = (true, r) := by
  intro args blk r h
  unfold s23 at h
  split at h
  · obtain ⟨g, rfl⟩ := guarded h
    obtain ⟨n, hn⟩ := k23 _ (of_decide_eq_true g)
    exact ⟨n, .inl hn⟩
  · cases h

theorem v7 : ∀ args blk r, s7 args blk = (true, r) → ∃ n, runF E (callOf L23) n 7 args blk = some r ∨ run E n 7 args blk = (true, r) := by
  intro args blk r h
  unfold s7 at h
  split at h
  · obtain ⟨g, rfl⟩ := guarded h
    exact ⟨1, .inl (law7 _ _ _ _ g)⟩
  · cases h

theorem v8 : ∀ args blk r, s8 args blk = (true, r) → ∃ n, runF E (callOf L7) n 8 args blk = some r ∨ run E n 8 args blk = (true, r) := by
  intro args blk r h
  unfold s8 at h
  split at h
  · obtain ⟨g, rfl⟩ := guarded h
    exact ⟨1, .inl (law8 _ g)⟩
  · cases h

theorem v9 : ∀ args blk r, s9 args blk = (true, r) → ∃ n, runF E (callOf L8) n 9 args blk = some r ∨ run E n 9 args blk = (true, r) := by
  intro args blk r h
  unfold s9 at h
  split at h
  · obtain ⟨g, rfl⟩ := guarded h
    simp only [Bool.and_eq_true, decide_eq_true_eq] at g
    obtain ⟨n, hn⟩ := law9 _ _ g.1 g.2.1 g.2.2
    exact ⟨n, .inl hn⟩
  · cases h

theorem valid : Valid E L := trivial
theorem valid24 : Valid E L24 := ⟨v24, valid⟩
theorem valid25 : Valid E L25 := ⟨v25, valid24⟩
theorem valid26 : Valid E L26 := ⟨v26, valid25⟩
theorem valid28 : Valid E L28 := ⟨v28, valid26⟩
theorem valid27 : Valid E L27 := ⟨v27, valid28⟩
theorem valid10 : Valid E L10 := ⟨v10, valid27⟩
theorem valid11 : Valid E L11 := ⟨v11, valid10⟩
theorem valid13 : Valid E L13 := ⟨v13, valid11⟩
theorem valid14 : Valid E L14 := ⟨v14, valid13⟩
theorem valid39 : Valid E L39 := ⟨v39, valid14⟩
theorem valid30 : Valid E L30 := ⟨v30, valid39⟩
theorem valid29 : Valid E L29 := ⟨v29, valid30⟩
theorem valid15 : Valid E L15 := ⟨v15, valid29⟩
theorem valid16 : Valid E L16 := ⟨v16, valid15⟩
theorem valid31 : Valid E L31 := ⟨v31, valid16⟩
theorem valid17 : Valid E L17 := ⟨v17, valid31⟩
theorem valid18 : Valid E L18 := ⟨v18, valid17⟩
theorem valid12 : Valid E L12 := ⟨v12, valid18⟩
theorem valid3 : Valid E L3 := ⟨v3, valid12⟩
theorem valid4 : Valid E L4 := ⟨v4, valid3⟩
theorem valid5 : Valid E L5 := ⟨v5, valid4⟩
theorem valid6 : Valid E L6 := ⟨v6, valid5⟩
theorem valid32 : Valid E L32 := ⟨v32, valid6⟩
theorem valid41 : Valid E L41 := ⟨v41, valid32⟩
theorem valid40 : Valid E L40 := ⟨v40, valid41⟩
theorem valid45 : Valid E L45 := ⟨v45, valid40⟩
theorem valid33 : Valid E L33 := ⟨v33, valid45⟩
theorem valid19 : Valid E L19 := ⟨v19, valid33⟩
theorem valid20 : Valid E L20 := ⟨v20, valid19⟩
theorem valid42 : Valid E L42 := ⟨v42, valid20⟩
theorem valid35 : Valid E L35 := ⟨v35, valid42⟩
theorem valid34 : Valid E L34 := ⟨v34, valid35⟩
theorem valid21 : Valid E L21 := ⟨v21, valid34⟩
theorem valid22 : Valid E L22 := ⟨v22, valid21⟩
theorem valid43 : Valid E L43 := ⟨v43, valid22⟩
theorem valid36 : Valid E L36 := ⟨v36, valid43⟩
theorem valid37 : Valid E L37 := ⟨v37, valid36⟩
theorem valid44 : Valid E L44 := ⟨v44, valid37⟩
theorem valid38 : Valid E L38 := ⟨v38, valid44⟩
theorem valid23 : Valid E L23 := ⟨v23, valid38⟩
theorem valid7 : Valid E L7 := ⟨v7, valid23⟩
theorem valid8 : Valid E L8 := ⟨v8, valid7⟩
theorem valid9 : Valid E L9 := ⟨v9, valid8⟩

theorem okB_wf {x : List (List Cell)} (h : Cell.Wf E (.slice 5 x)) : okB x = true := by
  obtain ⟨h1, _, h3⟩ := wf_slice (ks := [.int .u8]) h (by kernel_rfl)
  refine List.all_eq_true.2 fun r hr => ?_
  obtain ⟨c, r', rfl, hc, hr'⟩ := row_cons (h1 r hr)
  obtain ⟨n, rfl⟩ := kind_int hc
  obtain rfl := row_nil hr'
  have := wf_u8 (h3 _ hr _ List.mem_cons_self)
  simp only [isByte, Bool.and_eq_true, decide_eq_true_eq]
  omega

end Go.Proofs.Ytaafnpmijncpeaa
