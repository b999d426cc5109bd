/-
  The contracts, one on top of the other.
-/
import Derived.Test.YteogaajjkcfeeaaLawA
import Derived.Test.YteogaajjkcfeeaaAw
import Derived.Test.YteogaajjkcfeeaaA30
namespace Go.Proofs.Yteogaajjkcfeeaa
open Go.Abs

theorem v30 : ∀ args blk r, s30 args blk = (true, r) → ∃ n, runF E (callOf L) n 30 args blk = some r ∨ run E n 30 args blk = (true, r) := by
  intro args blk r h
  unfold s30 at h
  split at h
  · obtain ⟨g, rfl⟩ := guarded h
    exact ⟨1, .inl (k30 _)⟩
  · cases h

theorem v29 : ∀ args blk r, s29 args blk = (true, r) → ∃ n, runF E (callOf L30) n 29 args blk = some r ∨ run E n 29 args blk = (true, r) := by
  intro args blk r h
  unfold s29 at h
  split at h
  · obtain ⟨g, rfl⟩ := guarded h
    exact ⟨1, .inl (k29 _)⟩
  · cases h

theorem v11 : ∀ args blk r, s11 args blk = (true, r) → ∃ n, runF E (callOf L29) n 11 args blk = some r ∨ run E n 11 args blk = (true, r) := by
  intro args blk r h
  unfold s11 at h
  split at h
  · obtain ⟨g, rfl⟩ := guarded h
    exact ⟨1, .inl (k11 _ _ _ _ _)⟩
  · cases h

theorem v12 : ∀ args blk r, s12 args blk = (true, r) → ∃ n, runF E (callOf L11) n 12 args blk = some r ∨ run E n 12 args blk = (true, r) := by
  intro args blk r h
  unfold s12 at h
  split at h
  · obtain ⟨g, rfl⟩ := guarded h
    exact ⟨1, .inl (k12 _ _ _ _ _)⟩
  · cases h

theorem v32 : ∀ args blk r, s32 args blk = (true, r) → ∃ n, runF E (callOf L12) n 32 args blk = some r ∨ run E n 32 args blk = (true, r) := by
  intro args blk r h
  unfold s32 at h
  split at h
  · obtain ⟨g, rfl⟩ := guarded h
    exact ⟨1, .inl (k32 _ _ _ _ _)⟩
  · cases h

theorem v49 : ∀ args blk r, s49 args blk = (true, r) → ∃ n, runF E (callOf L32) n 49 args blk = some r ∨ run E n 49 args blk = (true, r) := by
  intro args blk r h
  unfold s49 at h
  split at h
  · obtain ⟨g, rfl⟩ := guarded h
    obtain ⟨n, hn⟩ := k49 _ (of_decide_eq_true g)
    exact ⟨n, .inl hn⟩
  · cases h

theorem v31 : ∀ args blk r, s31 args blk = (true, r) → ∃ n, runF E (callOf L49) n 31 args blk = some r ∨ run E n 31 args blk = (true, r) := by
  intro args blk r h
  unfold s31 at h
  split at h
  · obtain ⟨g, rfl⟩ := guarded h
    exact ⟨1, .inl (k31 _ (of_decide_eq_true g))⟩
  · cases h

theorem v16 : ∀ args blk r, s16 args blk = (true, r) → ∃ n, runF E (callOf L31) n 16 args blk = some r ∨ run E n 16 args blk = (true, r) := by
  intro args blk r h
  unfold s16 at h
  split at h
  · obtain ⟨g, rfl⟩ := guarded h
    exact ⟨1, .inl (k16 _ _ _ _ (of_decide_eq_true g))⟩
  · cases h

theorem v17 : ∀ args blk r, s17 args blk = (true, r) → ∃ n, runF E (callOf L16) n 17 args blk = some r ∨ run E n 17 args blk = (true, r) := by
  intro args blk r h
  unfold s17 at h
  split at h
  · obtain ⟨g, rfl⟩ := guarded h
    obtain ⟨n, hn⟩ := k17 _ _ _ _ (of_decide_eq_true g)
    exact ⟨n, .inl hn⟩
  · cases h

theorem v14 : ∀ args blk r, s14 args blk = (true, r) → ∃ n, runF E (callOf L17) n 14 args blk = some r ∨ run E n 14 args blk = (true, r) := by
  intro args blk r h
  unfold s14 at h
  split at h
  · obtain ⟨g, rfl⟩ := guarded h
    obtain ⟨n, hn⟩ := k14 _ _ _ _
    exact ⟨n, .inl hn⟩
  · cases h

theorem v15 : ∀ args blk r, s15 args blk = (true, r) → ∃ n, runF E (callOf L14) n 15 args blk = some r ∨ run E n 15 args blk = (true, r) := by
  intro args blk r h
  unfold s15 at h
  split at h
  · obtain ⟨g, rfl⟩ := guarded h
    obtain ⟨n, hn⟩ := k15 _ _ _ _
    exact ⟨n, .inl hn⟩
  · cases h

theorem v50 : ∀ args blk r, s50 args blk = (true, r) → ∃ n, runF E (callOf L15) n 50 args blk = some r ∨ run E n 50 args blk = (true, r) := by
  intro args blk r h
  unfold s50 at h
  split at h
  · obtain ⟨g, rfl⟩ := guarded h
    exact ⟨1, .inl (k50 _)⟩
  · cases h

theorem v34 : ∀ args blk r, s34 args blk = (true, r) → ∃ n, runF E (callOf L50) n 34 args blk = some r ∨ run E n 34 args blk = (true, r) := by
  intro args blk r h
  unfold s34 at h
  split at h
  · obtain ⟨g, rfl⟩ := guarded h
    exact ⟨1, .inl (k34 _ _)⟩
  · cases h

theorem v33 : ∀ args blk r, s33 args blk = (true, r) → ∃ n, runF E (callOf L34) n 33 args blk = some r ∨ run E n 33 args blk = (true, r) := by
  intro args blk r h
  unfold s33 at h
  split at h
  · obtain ⟨g, rfl⟩ := guarded h
    obtain ⟨n, hn⟩ := k33 _ (of_decide_eq_true g)
    exact ⟨n, .inl hn⟩
  · cases h

theorem v18 : ∀ args blk r, s18 args blk = (true, r) → ∃ n, runF E (callOf L33) n 18 args blk = some r ∨ run E n 18 args blk = (true, r) := by
  intro args blk r h
  unfold s18 at h
  split at h
  · obtain ⟨g, rfl⟩ := guarded h
    exact ⟨1, .inl (k18 _ _ _ _ _ _ _ _)⟩
  · cases h

theorem v19 : ∀ args blk r, s19 args blk = (true, r) → ∃ n, runF E (callOf L18) n 19 args blk = some r ∨ run E n 19 args blk = (true, r) := by
  intro args blk r h
  unfold s19 at h
  split at h
  · obtain ⟨g, rfl⟩ := guarded h
    exact ⟨1, .inl (k19 _ _ _ _ _ _ _ _)⟩
  · cases h

theorem v20 : ∀ args blk r, s20 args blk = (true, r) → ∃ n, runF E (callOf L19) n 20 args blk = some r ∨ run E n 20 args blk = (true, r) := by
  intro args blk r h
  unfold s20 at h
  split at h
  · obtain ⟨g, rfl⟩ := guarded h
    exact ⟨1, .inl (k20 _ _ _ _ _ _ _ _)⟩
  · cases h

theorem v21 : ∀ args blk r, s21 args blk = (true, r) → ∃ n, runF E (callOf L20) n 21 args blk = some r ∨ run E n 21 args blk = (true, r) := by
  intro args blk r h
  unfold s21 at h
  split at h
  · obtain ⟨g, rfl⟩ := guarded h
    exact ⟨1, .inl (k21 _ _ _ _ _ _ _ _)⟩
  · cases h

theorem v35 : ∀ args blk r, s35 args blk = (true, r) → ∃ n, runF E (callOf L21) n 35 args blk = some r ∨ run E n 35 args blk = (true, r) := by
  intro args blk r h
  unfold s35 at h
  split at h
  · obtain ⟨g, rfl⟩ := guarded h
    obtain ⟨n, hn⟩ := k35 _ _ (of_decide_eq_true g)
    exact ⟨n, .inl hn⟩
  · cases h

theorem v22 : ∀ args blk r, s22 args blk = (true, r) → ∃ n, runF E (callOf L35) n 22 args blk = some r ∨ run E n 22 args blk = (true, r) := by
  intro args blk r h
  unfold s22 at h
  split at h
  · obtain ⟨g, rfl⟩ := guarded h
    exact ⟨1, .inl (k22 _ _ _ _ _ _ _ _ (of_decide_eq_true g))⟩
  · cases h

theorem v23 : ∀ args blk r, s23 args blk = (true, r) → ∃ n, runF E (callOf L22) n 23 args blk = some r ∨ run E n 23 args blk = (true, r) := by
  intro args blk r h
  unfold s23 at h
  split at h
  · obtain ⟨g, rfl⟩ := guarded h
    obtain ⟨n, hn⟩ := k23 _ _ _ _ _ _ _ _ (of_decide_eq_true g)
    exact ⟨n, .inl hn⟩
  · cases h

theorem v13 : ∀ args blk r, s13 args blk = (true, r) → ∃ n, runF E (callOf L23) n 13 args blk = some r ∨ run E n 13 args blk = (true, r) := by
  intro args blk r h
  unfold s13 at h
  split at h
  · obtain ⟨g, rfl⟩ := guarded h
    exact ⟨1, .inl (k13 _ _ _ _)⟩
  · cases h

theorem v10 : ∀ args blk r, s10 args blk = (true, r) → ∃ n, runF E (callOf L13) n 10 args blk = some r ∨ run E n 10 args blk = (true, r) := by
  intro args blk r h
  unfold s10 at h
  split at h
  · obtain ⟨g, rfl⟩ := guarded h
    exact ⟨200, .inr aw⟩
  · cases h

theorem v3 : ∀ args blk r, s3 args blk = (true, r) → ∃ n, runF E (callOf L10) n 3 args blk = some r ∨ run E n 3 args blk = (true, r) := by
  intro args blk r h
  unfold s3 at h
  split at h
  · obtain ⟨g, rfl⟩ := guarded h
    exact ⟨1, .inl (law3 _ _ _ _ _)⟩
  · cases h

theorem v4 : ∀ args blk r, s4 args blk = (true, r) → ∃ n, runF E (callOf L3) n 4 args blk = some r ∨ run E n 4 args blk = (true, r) := by
  intro args blk r h
  unfold s4 at h
  split at h
  · obtain ⟨g, rfl⟩ := guarded h
    exact ⟨1, .inl (law4 _ _ _ _)⟩
  · cases h

theorem v5 : ∀ args blk r, s5 args blk = (true, r) → ∃ n, runF E (callOf L4) n 5 args blk = some r ∨ run E n 5 args blk = (true, r) := by
  intro args blk r h
  unfold s5 at h
  split at h
  · obtain ⟨g, rfl⟩ := guarded h
    exact ⟨1, .inl (law5 _ _ _ _ _ _ _ _ _ _ _ _)⟩
  · cases h

theorem v6 : ∀ args blk r, s6 args blk = (true, r) → ∃ n, runF E (callOf L5) n 6 args blk = some r ∨ run E n 6 args blk = (true, r) := by
  intro args blk r h
  unfold s6 at h
  split at h
  · obtain ⟨g, rfl⟩ := guarded h
    exact ⟨1, .inl (law6 _ _ _ _ _ _ _ _)⟩
  · cases h

theorem valid : Valid E L := trivial
theorem valid30 : Valid E L30 := ⟨v30, valid⟩
theorem valid29 : Valid E L29 := ⟨v29, valid30⟩
theorem valid11 : Valid E L11 := ⟨v11, valid29⟩
theorem valid12 : Valid E L12 := ⟨v12, valid11⟩
theorem valid32 : Valid E L32 := ⟨v32, valid12⟩
theorem valid49 : Valid E L49 := ⟨v49, valid32⟩
theorem valid31 : Valid E L31 := ⟨v31, valid49⟩
theorem valid16 : Valid E L16 := ⟨v16, valid31⟩
theorem valid17 : Valid E L17 := ⟨v17, valid16⟩
theorem valid14 : Valid E L14 := ⟨v14, valid17⟩
theorem valid15 : Valid E L15 := ⟨v15, valid14⟩
theorem valid50 : Valid E L50 := ⟨v50, valid15⟩
theorem valid34 : Valid E L34 := ⟨v34, valid50⟩
theorem valid33 : Valid E L33 := ⟨v33, valid34⟩
theorem valid18 : Valid E L18 := ⟨v18, valid33⟩
theorem valid19 : Valid E L19 := ⟨v19, valid18⟩
theorem valid20 : Valid E L20 := ⟨v20, valid19⟩
theorem valid21 : Valid E L21 := ⟨v21, valid20⟩
theorem valid35 : Valid E L35 := ⟨v35, valid21⟩
theorem valid22 : Valid E L22 := ⟨v22, valid35⟩
theorem valid23 : Valid E L23 := ⟨v23, valid22⟩
theorem valid13 : Valid E L13 := ⟨v13, valid23⟩
theorem valid10 : Valid E L10 := ⟨v10, valid13⟩
theorem valid3 : Valid E L3 := ⟨v3, valid10⟩
theorem valid4 : Valid E L4 := ⟨v4, valid3⟩
theorem valid5 : Valid E L5 := ⟨v5, valid4⟩
theorem valid6 : Valid E L6 := ⟨v6, valid5⟩

end Go.Proofs.Yteogaajjkcfeeaa
