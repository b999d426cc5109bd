/-
  The contracts, one on top of the other.
-/
import Derived.Test.YtejimgikldiajaaEqM
import Derived.Test.YtejimgikldiajaaAw
import Derived.Test.YtejimgikldiajaaA30
namespace Go.Proofs.Ytejimgikldiajaa
open Go.Abs

theorem k21 (k : Int) : runF E (callOf L4) 1 21 [.one (.int .i64 k)] [] = some ([.one (.sl false 62 (usedR k)), .one (.bool (usedL k).isSome)], []) := rfl

theorem v34 : ∀ args blk r, s34 args blk = (true, r) → ∃ n, runF E (callOf L) n 34 args blk = some r ∨ run E n 34 args blk = (true, r) := by
  intro args blk r h
  unfold s34 at h
  split at h
  · obtain ⟨g, rfl⟩ := guarded h
    obtain ⟨n, hn⟩ := k34 _ _ _ _ _ _ (of_decide_eq_true g)
    exact ⟨n, .inl hn⟩
  · cases h

theorem v17 : ∀ args blk r, s17 args blk = (true, r) → ∃ n, runF E (callOf L34) n 17 args blk = some r ∨ run E n 17 args blk = (true, r) := by
  intro args blk r h
  unfold s17 at h
  split at h
  · obtain ⟨g, rfl⟩ := guarded h
    obtain ⟨n, hn⟩ := k17 _ _ g
    exact ⟨n, .inl hn⟩
  · cases h

theorem v19 : ∀ args blk r, s19 args blk = (true, r) → ∃ n, runF E (callOf L17) n 19 args blk = some r ∨ run E n 19 args blk = (true, r) := by
  intro args blk r h
  unfold s19 at h
  split at h
  · obtain ⟨g, rfl⟩ := guarded h
    obtain ⟨n, hn⟩ := k19 _ _ g
    exact ⟨n, .inl hn⟩
  · cases h

theorem v33 : ∀ args blk r, s33 args blk = (true, r) → ∃ n, runF E (callOf L19) n 33 args blk = some r ∨ run E n 33 args blk = (true, r) := by
  intro args blk r h
  unfold s33 at h
  split at h
  · obtain ⟨g, rfl⟩ := guarded h
    obtain ⟨n, hn⟩ := k33 _ _ (of_decide_eq_true g)
    exact ⟨n, .inl hn⟩
  · cases h

theorem v14 : ∀ args blk r, s14 args blk = (true, r) → ∃ n, runF E (callOf L33) n 14 args blk = some r ∨ run E n 14 args blk = (true, r) := by
  intro args blk r h
  unfold s14 at h
  split at h
  · obtain ⟨g, rfl⟩ := guarded h
    exact ⟨1, .inl (k14 _ _ _ _ _ _ _ _ (of_decide_eq_true g))⟩
  · cases h

theorem v35 : ∀ args blk r, s35 args blk = (true, r) → ∃ n, runF E (callOf L14) n 35 args blk = some r ∨ run E n 35 args blk = (true, r) := by
  intro args blk r h
  unfold s35 at h
  split at h
  · obtain ⟨g, rfl⟩ := guarded h
    obtain ⟨n, hn⟩ := k35 _ _ _ _ _ _ _ _ (of_decide_eq_true g)
    exact ⟨n, .inl hn⟩
  · cases h

theorem v18 : ∀ args blk r, s18 args blk = (true, r) → ∃ n, runF E (callOf L35) n 18 args blk = some r ∨ run E n 18 args blk = (true, r) := by
  intro args blk r h
  unfold s18 at h
  split at h
  · obtain ⟨g, rfl⟩ := guarded h
    obtain ⟨n, hn⟩ := k18 _ _ g
    exact ⟨n, .inl hn⟩
  · cases h

theorem v16 : ∀ args blk r, s16 args blk = (true, r) → ∃ n, runF E (callOf L18) n 16 args blk = some r ∨ run E n 16 args blk = (true, r) := by
  intro args blk r h
  unfold s16 at h
  split at h
  · obtain ⟨g, rfl⟩ := guarded h
    exact ⟨1, .inl (k16 _ _ _ _ g)⟩
  · cases h

theorem v32 : ∀ args blk r, s32 args blk = (true, r) → ∃ n, runF E (callOf L16) n 32 args blk = some r ∨ run E n 32 args blk = (true, r) := by
  intro args blk r h
  unfold s32 at h
  split at h
  · obtain ⟨g, rfl⟩ := guarded h
    obtain ⟨n, hn⟩ := k32 _ _ (of_decide_eq_true g)
    exact ⟨n, .inl hn⟩
  · cases h

theorem v31 : ∀ args blk r, s31 args blk = (true, r) → ∃ n, runF E (callOf L32) n 31 args blk = some r ∨ run E n 31 args blk = (true, r) := by
  intro args blk r h
  unfold s31 at h
  split at h
  · obtain ⟨g, rfl⟩ := guarded h
    exact ⟨1, .inl (k31 _ _ _ _ _ _ (of_decide_eq_true g))⟩
  · cases h

theorem v30 : ∀ args blk r, s30 args blk = (true, r) → ∃ n, runF E (callOf L31) n 30 args blk = some r ∨ run E n 30 args blk = (true, r) := by
  intro args blk r h
  unfold s30 at h
  split at h
  · obtain ⟨g, rfl⟩ := guarded h
    obtain ⟨n, hn⟩ := k30 _ _ g
    exact ⟨n, .inl hn⟩
  · cases h

theorem v12 : ∀ args blk r, s12 args blk = (true, r) → ∃ n, runF E (callOf L30) n 12 args blk = some r ∨ run E n 12 args blk = (true, r) := by
  intro args blk r h
  unfold s12 at h
  split at h
  · obtain ⟨g, rfl⟩ := guarded h
    exact ⟨1, .inl (k12 _ _ g)⟩
  · cases h

theorem v11 : ∀ args blk r, s11 args blk = (true, r) → ∃ n, runF E (callOf L12) n 11 args blk = some r ∨ run E n 11 args blk = (true, r) := by
  intro args blk r h
  unfold s11 at h
  split at h
  · obtain ⟨g, rfl⟩ := guarded h
    exact ⟨1, .inl (k11 _ _ _ _ g)⟩
  · cases h

theorem v13 : ∀ args blk r, s13 args blk = (true, r) → ∃ n, runF E (callOf L11) n 13 args blk = some r ∨ run E n 13 args blk = (true, r) := by
  intro args blk r h
  unfold s13 at h
  split at h
  · obtain ⟨g, rfl⟩ := guarded h
    obtain ⟨n, hn⟩ := k13 _ _ g
    exact ⟨n, .inl hn⟩
  · cases h

theorem v15 : ∀ args blk r, s15 args blk = (true, r) → ∃ n, runF E (callOf L13) n 15 args blk = some r ∨ run E n 15 args blk = (true, r) := by
  intro args blk r h
  unfold s15 at h
  split at h
  · obtain ⟨g, rfl⟩ := guarded h
    obtain ⟨n, hn⟩ := k15 _ _ g
    exact ⟨n, .inl hn⟩
  · cases h

theorem v6 : ∀ args blk r, s6 args blk = (true, r) → ∃ n, runF E (callOf L15) n 6 args blk = some r ∨ run E n 6 args blk = (true, r) := by
  intro args blk r h
  unfold s6 at h
  split at h
  · obtain ⟨g, rfl⟩ := guarded h
    exact ⟨1, .inl (k6 _ _ _ _ _ _ _ _ _ _ _ _ _ _ _ _ _ _ _ _ _ _ _ _ _ _ _ _ _ _ _ _ _ _ _ _ g)⟩
  · cases h

theorem v7 : ∀ args blk r, s7 args blk = (true, r) → ∃ n, runF E (callOf L6) n 7 args blk = some r ∨ run E n 7 args blk = (true, r) := by
  intro args blk r h
  unfold s7 at h
  split at h
  · obtain ⟨g, rfl⟩ := guarded h
    exact ⟨1, .inl (k7 _ _ _ _ _ _ _ _ _ _ _ _ _ _ _ _ _ _ _ _ _ _ _ _ _ _ _ _ _ _ _ _ _ _ _ _ g)⟩
  · cases h

theorem v4 : ∀ args blk r, s4 args blk = (true, r) → ∃ n, runF E (callOf L7) n 4 args blk = some r ∨ run E n 4 args blk = (true, r) := by
  intro args blk r h
  unfold s4 at h
  split at h
  · obtain ⟨g, rfl⟩ := guarded h
    exact ⟨1, .inl (k4 _ _ _ _ _ _ _ _ _ _ _ _ _ _ _ _ _ _)⟩
  · cases h

theorem v21 : ∀ args blk r, s21 args blk = (true, r) → ∃ n, runF E (callOf L4) n 21 args blk = some r ∨ run E n 21 args blk = (true, r) := by
  intro args blk r h
  unfold s21 at h
  split at h
  · obtain ⟨g, rfl⟩ := guarded h
    exact ⟨1, .inl (k21 _)⟩
  · cases h

theorem v92 : ∀ args blk r, s92 args blk = (true, r) → ∃ n, runF E (callOf L21) n 92 args blk = some r ∨ run E n 92 args blk = (true, r) := by
  intro args blk r h
  unfold s92 at h
  split at h
  · obtain ⟨g, rfl⟩ := guarded h
    exact ⟨1, .inl (k92 _)⟩
  · cases h

theorem v5 : ∀ args blk r, s5 args blk = (true, r) → ∃ n, runF E (callOf L92) n 5 args blk = some r ∨ run E n 5 args blk = (true, r) := by
  intro args blk r h
  unfold s5 at h
  split at h
  · obtain ⟨g, rfl⟩ := guarded h
    exact ⟨200, .inr aw⟩
  · cases h

theorem v3 : ∀ args blk r, s3 args blk = (true, r) → ∃ n, runF E (callOf L5) n 3 args blk = some r ∨ run E n 3 args blk = (true, r) := by
  intro args blk r h
  unfold s3 at h
  split at h
  · obtain ⟨g, rfl⟩ := guarded h
    exact ⟨1, .inl (law3 _ _ _ _ _ _ _ _ _ _ _ _ _ _ _ _ _ _ _ _ _ _ _ _ _ _ _ _ _ _ _ _ _ _ _ _ g)⟩
  · cases h

theorem valid : Valid E L := trivial
theorem valid34 : Valid E L34 := ⟨v34, valid⟩
theorem valid17 : Valid E L17 := ⟨v17, valid34⟩
theorem valid19 : Valid E L19 := ⟨v19, valid17⟩
theorem valid33 : Valid E L33 := ⟨v33, valid19⟩
theorem valid14 : Valid E L14 := ⟨v14, valid33⟩
theorem valid35 : Valid E L35 := ⟨v35, valid14⟩
theorem valid18 : Valid E L18 := ⟨v18, valid35⟩
theorem valid16 : Valid E L16 := ⟨v16, valid18⟩
theorem valid32 : Valid E L32 := ⟨v32, valid16⟩
theorem valid31 : Valid E L31 := ⟨v31, valid32⟩
theorem valid30 : Valid E L30 := ⟨v30, valid31⟩
theorem valid12 : Valid E L12 := ⟨v12, valid30⟩
theorem valid11 : Valid E L11 := ⟨v11, valid12⟩
theorem valid13 : Valid E L13 := ⟨v13, valid11⟩
theorem valid15 : Valid E L15 := ⟨v15, valid13⟩
theorem valid6 : Valid E L6 := ⟨v6, valid15⟩
theorem valid7 : Valid E L7 := ⟨v7, valid6⟩
theorem valid4 : Valid E L4 := ⟨v4, valid7⟩
theorem valid21 : Valid E L21 := ⟨v21, valid4⟩
theorem valid92 : Valid E L92 := ⟨v92, valid21⟩
theorem valid5 : Valid E L5 := ⟨v5, valid92⟩
theorem valid3 : Valid E L3 := ⟨v3, valid5⟩

theorem cfg_wf {c : List (List Cell)} (h : Cell.Wf E (.slice 74 c)) : shortRows c = true := by
  obtain ⟨h1, _, h3⟩ := wf_slice (ks := [.int .i64, .int .i64, .slice 79]) h (by kernel_rfl)
  refine List.all_eq_true.2 fun r hr => ?_
  obtain ⟨c0, r0, rfl, e0, q0⟩ := row_cons (h1 r hr)
  obtain ⟨c1, r1, rfl, e1, q1⟩ := row_cons q0
  obtain ⟨c2, r2, rfl, e2, q2⟩ := row_cons q1
  obtain ⟨l, rfl⟩ := kind_slice e2
  obtain rfl := row_nil q2
  have hl := (wf_slice (ks := [.int .i64, .int .i64, .int .i64, .int .i64, .int .i64, .int .i64, .int .i64]) (h3 _ hr (.slice 79 l) (by simp)) (by kernel_rfl)).2.1
  have e : nl [c0, c1, .slice 79 l] 2 = l := rfl
  unfold shortRow
  rw [e]
  simp only [decide_eq_true_eq]
  unfold maxLen at hl
  omega

theorem st_wf {c : List (List Cell)} (h : Cell.Wf E (.slice 48 c)) : shortRowsU c = true := by
  obtain ⟨h1, _, h3⟩ := wf_slice (ks := [.int .i64, .int .i64, .int .i64, .slice 83]) h (by kernel_rfl)
  refine List.all_eq_true.2 fun r hr => ?_
  obtain ⟨c0, r0, rfl, e0, q0⟩ := row_cons (h1 r hr)
  obtain ⟨c1, r1, rfl, e1, q1⟩ := row_cons q0
  obtain ⟨c2, r2, rfl, e2, q2⟩ := row_cons q1
  obtain ⟨c3, r3, rfl, e3, q3⟩ := row_cons q2
  obtain ⟨l, rfl⟩ := kind_slice e3
  obtain rfl := row_nil q3
  have hl := (wf_slice (ks := [.int .i64, .str, .str, .int .i64, .str]) (h3 _ hr (.slice 83 l) (by simp)) (by kernel_rfl)).2.1
  have e : nl [c0, c1, c2, .slice 83 l] 3 = l := rfl
  unfold shortRowU
  rw [e]
  simp only [decide_eq_true_eq]
  unfold maxLen at hl
  omega

end Go.Proofs.Ytejimgikldiajaa
