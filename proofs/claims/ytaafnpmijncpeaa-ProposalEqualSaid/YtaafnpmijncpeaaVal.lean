/-
  The contracts, one on top of the other.
-/
import Derived.Test.YtaafnpmijncpeaaLawA
import Derived.Test.YtaafnpmijncpeaaAw
import Derived.Test.YtaafnpmijncpeaaA30
namespace Go.Proofs.Ytaafnpmijncpeaa
open Go.Abs

theorem v24 : ∀ args blk r, s24 args blk = (true, r) → ∃ n, runF E (callOf L) n 24 args blk = some r ∨ run E n 24 args blk = (true, r) := by
  intro args blk r h
  unfold s24 at h
  split at h
  · obtain ⟨g, rfl⟩ := guarded h
    exact ⟨1, .inl (k24 _ _ _ _)⟩
  · cases h

theorem v25 : ∀ args blk r, s25 args blk = (true, r) → ∃ n, runF E (callOf L24) n 25 args blk = some r ∨ run E n 25 args blk = (true, r) := by
  intro args blk r h
  unfold s25 at h
  split at h
  · obtain ⟨g, rfl⟩ := guarded h
    exact ⟨1, .inl (k25 _ _ _)⟩
  · cases h

theorem v26 : ∀ args blk r, s26 args blk = (true, r) → ∃ n, runF E (callOf L25) n 26 args blk = some r ∨ run E n 26 args blk = (true, r) := by
  intro args blk r h
  unfold s26 at h
  split at h
  · obtain ⟨g, rfl⟩ := guarded h
    exact ⟨1, .inl (k26 _)⟩
  · cases h

theorem v28 : ∀ args blk r, s28 args blk = (true, r) → ∃ n, runF E (callOf L26) n 28 args blk = some r ∨ run E n 28 args blk = (true, r) := by
  intro args blk r h
  unfold s28 at h
  split at h
  · obtain ⟨g, rfl⟩ := guarded h
    exact ⟨1, .inl (k28 _)⟩
  · cases h

theorem v27 : ∀ args blk r, s27 args blk = (true, r) → ∃ n, runF E (callOf L28) n 27 args blk = some r ∨ run E n 27 args blk = (true, r) := by
  intro args blk r h
  unfold s27 at h
  split at h
  · obtain ⟨g, rfl⟩ := guarded h
    exact ⟨1, .inl (k27 _ _ _)⟩
  · cases h

theorem v10 : ∀ args blk r, s10 args blk = (true, r) → ∃ n, runF E (callOf L27) n 10 args blk = some r ∨ run E n 10 args blk = (true, r) := by
  intro args blk r h
  unfold s10 at h
  split at h
  · obtain ⟨g, rfl⟩ := guarded h
    exact ⟨1, .inl (k10 _ _ _ _ _ _ _)⟩
  · cases h

theorem v11 : ∀ args blk r, s11 args blk = (true, r) → ∃ n, runF E (callOf L10) n 11 args blk = some r ∨ run E n 11 args blk = (true, r) := by
  intro args blk r h
  unfold s11 at h
  split at h
  · obtain ⟨g, rfl⟩ := guarded h
    exact ⟨6, .inl (k11 _ _ _ _ _ _ _)⟩
  · cases h

theorem v13 : ∀ args blk r, s13 args blk = (true, r) → ∃ n, runF E (callOf L11) n 13 args blk = some r ∨ run E n 13 args blk = (true, r) := by
  intro args blk r h
  unfold s13 at h
  split at h
  · obtain ⟨g, rfl⟩ := guarded h
    obtain ⟨n, hn⟩ := k13 _ _ _ (of_decide_eq_true g)
    exact ⟨n, .inl hn⟩
  · cases h

theorem v14 : ∀ args blk r, s14 args blk = (true, r) → ∃ n, runF E (callOf L13) n 14 args blk = some r ∨ run E n 14 args blk = (true, r) := by
  intro args blk r h
  unfold s14 at h
  split at h
  · obtain ⟨g, rfl⟩ := guarded h
    obtain ⟨n, hn⟩ := k14 _ _ _ (of_decide_eq_true g)
    exact ⟨n, .inl hn⟩
  · cases h

theorem v39 : ∀ args blk r, s39 args blk = (true, r) → ∃ n, runF E (callOf L14) n 39 args blk = some r ∨ run E n 39 args blk = (true, r) := by
  intro args blk r h
  unfold s39 at h
  split at h
  · obtain ⟨g, rfl⟩ := guarded h
    exact ⟨1, .inl (k39 _)⟩
  · cases h

theorem v30 : ∀ args blk r, s30 args blk = (true, r) → ∃ n, runF E (callOf L39) n 30 args blk = some r ∨ run E n 30 args blk = (true, r) := by
  intro args blk r h
  unfold s30 at h
  split at h
  · obtain ⟨g, rfl⟩ := guarded h
    exact ⟨1, .inl (k30 _ _)⟩
  · cases h

theorem v29 : ∀ args blk r, s29 args blk = (true, r) → ∃ n, runF E (callOf L30) n 29 args blk = some r ∨ run E n 29 args blk = (true, r) := by
  intro args blk r h
  unfold s29 at h
  split at h
  · obtain ⟨g, rfl⟩ := guarded h
    obtain ⟨n, hn⟩ := k29 _ (of_decide_eq_true g)
    exact ⟨n, .inl hn⟩
  · cases h

theorem v15 : ∀ args blk r, s15 args blk = (true, r) → ∃ n, runF E (callOf L29) n 15 args blk = some r ∨ run E n 15 args blk = (true, r) := by
  intro args blk r h
  unfold s15 at h
  split at h
  · obtain ⟨g, rfl⟩ := guarded h
    exact ⟨1, .inl (k15 _ _ _ _ _ _)⟩
  · cases h

theorem v16 : ∀ args blk r, s16 args blk = (true, r) → ∃ n, runF E (callOf L15) n 16 args blk = some r ∨ run E n 16 args blk = (true, r) := by
  intro args blk r h
  unfold s16 at h
  split at h
  · obtain ⟨g, rfl⟩ := guarded h
    exact ⟨1, .inl (k16 _ _ _ _ _ _)⟩
  · cases h

theorem v31 : ∀ args blk r, s31 args blk = (true, r) → ∃ n, runF E (callOf L16) n 31 args blk = some r ∨ run E n 31 args blk = (true, r) := by
  intro args blk r h
  unfold s31 at h
  split at h
  · obtain ⟨g, rfl⟩ := guarded h
    exact ⟨1, .inl (k31 _ _ _ _ _ _ _ _ _ _ _ _ _ _)⟩
  · cases h

theorem v17 : ∀ args blk r, s17 args blk = (true, r) → ∃ n, runF E (callOf L31) n 17 args blk = some r ∨ run E n 17 args blk = (true, r) := by
  intro args blk r h
  unfold s17 at h
  split at h
  · obtain ⟨g, rfl⟩ := guarded h
    obtain ⟨n, hn⟩ := k17 _ _ _ _ _ _ (of_decide_eq_true g)
    exact ⟨n, .inl hn⟩
  · cases h

theorem v18 : ∀ args blk r, s18 args blk = (true, r) → ∃ n, runF E (callOf L17) n 18 args blk = some r ∨ run E n 18 args blk = (true, r) := by
  intro args blk r h
  unfold s18 at h
  split at h
  · obtain ⟨g, rfl⟩ := guarded h
    obtain ⟨n, hn⟩ := k18 _ _ _ _ _ _ (of_decide_eq_true g)
    exact ⟨n, .inl hn⟩
  · cases h

theorem v12 : ∀ args blk r, s12 args blk = (true, r) → ∃ n, runF E (callOf L18) n 12 args blk = some r ∨ run E n 12 args blk = (true, r) := by
  intro args blk r h
  unfold s12 at h
  split at h
  · obtain ⟨g, rfl⟩ := guarded h
    exact ⟨200, .inr aw⟩
  · cases h

theorem v3 : ∀ args blk r, s3 args blk = (true, r) → ∃ n, runF E (callOf L12) n 3 args blk = some r ∨ run E n 3 args blk = (true, r) := by
  intro args blk r h
  unfold s3 at h
  split at h
  · obtain ⟨g, rfl⟩ := guarded h
    exact ⟨1, .inl (by rw [e3]; exact ct (by simp) rfl)⟩
  · cases h

theorem v4 : ∀ args blk r, s4 args blk = (true, r) → ∃ n, runF E (callOf L3) n 4 args blk = some r ∨ run E n 4 args blk = (true, r) := by
  intro args blk r h
  unfold s4 at h
  split at h
  · obtain ⟨g, rfl⟩ := guarded h
    exact ⟨1, .inl (law4 _ _ _)⟩
  · cases h

theorem v5 : ∀ args blk r, s5 args blk = (true, r) → ∃ n, runF E (callOf L4) n 5 args blk = some r ∨ run E n 5 args blk = (true, r) := by
  intro args blk r h
  unfold s5 at h
  split at h
  · obtain ⟨g, rfl⟩ := guarded h
    exact ⟨1, .inl (law5 _ _ _ _ _ _ _ _ _)⟩
  · cases h

theorem v6 : ∀ args blk r, s6 args blk = (true, r) → ∃ n, runF E (callOf L5) n 6 args blk = some r ∨ run E n 6 args blk = (true, r) := by
  intro args blk r h
  unfold s6 at h
  split at h
  · obtain ⟨g, rfl⟩ := guarded h
    exact ⟨1, .inl (law6 _ _ _ _ _ _)⟩
  · cases h

theorem valid : Valid E L := trivial
theorem valid24 : Valid E L24 := ⟨v24, valid⟩
theorem valid25 : Valid E L25 := ⟨v25, valid24⟩
theorem valid26 : Valid E L26 := ⟨v26, valid25⟩
theorem valid28 : Valid E L28 := ⟨v28, valid26⟩
theorem valid27 : Valid E L27 := ⟨v27, valid28⟩
theorem valid10 : Valid E L10 := ⟨v10, valid27⟩
theorem valid11 : Valid E L11 := ⟨v11, valid10⟩
theorem valid13 : Valid E L13 := ⟨v13, valid11⟩
theorem valid14 : Valid E L14 := ⟨v14, valid13⟩
theorem valid39 : Valid E L39 := ⟨v39, valid14⟩
theorem valid30 : Valid E L30 := ⟨v30, valid39⟩
theorem valid29 : Valid E L29 := ⟨v29, valid30⟩
theorem valid15 : Valid E L15 := ⟨v15, valid29⟩
theorem valid16 : Valid E L16 := ⟨v16, valid15⟩
theorem valid31 : Valid E L31 := ⟨v31, valid16⟩
theorem valid17 : Valid E L17 := ⟨v17, valid31⟩
theorem valid18 : Valid E L18 := ⟨v18, valid17⟩
theorem valid12 : Valid E L12 := ⟨v12, valid18⟩
theorem valid3 : Valid E L3 := ⟨v3, valid12⟩
theorem valid4 : Valid E L4 := ⟨v4, valid3⟩
theorem valid5 : Valid E L5 := ⟨v5, valid4⟩
theorem valid6 : Valid E L6 := ⟨v6, valid5⟩

end Go.Proofs.Ytaafnpmijncpeaa
