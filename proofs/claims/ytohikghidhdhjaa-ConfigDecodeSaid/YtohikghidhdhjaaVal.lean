/-
  The contracts, one on top of the other.
-/
import Derived.Test.YtohikghidhdhjaaCfg
import Derived.Test.YtohikghidhdhjaaAw
import Derived.Test.YtohikghidhdhjaaA30
namespace Go.Proofs.Ytohikghidhdhjaa
open Go.Abs

theorem v85 : ∀ args blk r, s85 args blk = (true, r) → ∃ n, runF E (callOf L) n 85 args blk = some r ∨ run E n 85 args blk = (true, r) := by
  intro args blk r h
  unfold s85 at h
  split at h
  · obtain ⟨g, rfl⟩ := guarded h
    exact ⟨1, .inl (k85 _ _ _ _)⟩
  · cases h

theorem v86 : ∀ args blk r, s86 args blk = (true, r) → ∃ n, runF E (callOf L85) n 86 args blk = some r ∨ run E n 86 args blk = (true, r) := by
  intro args blk r h
  unfold s86 at h
  split at h
  · obtain ⟨g, rfl⟩ := guarded h
    exact ⟨1, .inl (k86 _ _ _)⟩
  · cases h

theorem v88 : ∀ args blk r, s88 args blk = (true, r) → ∃ n, runF E (callOf L86) n 88 args blk = some r ∨ run E n 88 args blk = (true, r) := by
  intro args blk r h
  unfold s88 at h
  split at h
  · obtain ⟨g, rfl⟩ := guarded h
    exact ⟨1, .inl (k88 _)⟩
  · cases h

theorem v74 : ∀ args blk r, s74 args blk = (true, r) → ∃ n, runF E (callOf L88) n 74 args blk = some r ∨ run E n 74 args blk = (true, r) := by
  intro args blk r h
  unfold s74 at h
  split at h
  · obtain ⟨g, rfl⟩ := guarded h
    exact ⟨1, .inl (k74 _)⟩
  · cases h

theorem v89 : ∀ args blk r, s89 args blk = (true, r) → ∃ n, runF E (callOf L74) n 89 args blk = some r ∨ run E n 89 args blk = (true, r) := by
  intro args blk r h
  unfold s89 at h
  split at h
  · obtain ⟨g, rfl⟩ := guarded h
    exact ⟨1, .inl (k89 _ _ _)⟩
  · cases h

theorem v71 : ∀ args blk r, s71 args blk = (true, r) → ∃ n, runF E (callOf L89) n 71 args blk = some r ∨ run E n 71 args blk = (true, r) := by
  intro args blk r h
  unfold s71 at h
  split at h
  · obtain ⟨g, rfl⟩ := guarded h
    exact ⟨1, .inl (k71 _ _ _ _ _ _ _)⟩
  · cases h

theorem v75 : ∀ args blk r, s75 args blk = (true, r) → ∃ n, runF E (callOf L71) n 75 args blk = some r ∨ run E n 75 args blk = (true, r) := by
  intro args blk r h
  unfold s75 at h
  split at h
  · obtain ⟨g, rfl⟩ := guarded h
    exact ⟨6, .inl (k75 _ _ _ _ _ _ _)⟩
  · cases h

theorem v44 : ∀ args blk r, s44 args blk = (true, r) → ∃ n, runF E (callOf L75) n 44 args blk = some r ∨ run E n 44 args blk = (true, r) := by
  intro args blk r h
  unfold s44 at h
  split at h
  · obtain ⟨g, rfl⟩ := guarded h
    obtain ⟨n, hn⟩ := k44 _ _ _ (of_decide_eq_true g)
    exact ⟨n, .inl hn⟩
  · cases h

theorem v46 : ∀ args blk r, s46 args blk = (true, r) → ∃ n, runF E (callOf L44) n 46 args blk = some r ∨ run E n 46 args blk = (true, r) := by
  intro args blk r h
  unfold s46 at h
  split at h
  · obtain ⟨g, rfl⟩ := guarded h
    obtain ⟨n, hn⟩ := k46 _ _ _ (of_decide_eq_true g)
    exact ⟨n, .inl hn⟩
  · cases h

theorem v87 : ∀ args blk r, s87 args blk = (true, r) → ∃ n, runF E (callOf L46) n 87 args blk = some r ∨ run E n 87 args blk = (true, r) := by
  intro args blk r h
  unfold s87 at h
  split at h
  · obtain ⟨g, rfl⟩ := guarded h
    exact ⟨1, .inl (k87 _)⟩
  · cases h

theorem v73 : ∀ args blk r, s73 args blk = (true, r) → ∃ n, runF E (callOf L87) n 73 args blk = some r ∨ run E n 73 args blk = (true, r) := by
  intro args blk r h
  unfold s73 at h
  split at h
  · obtain ⟨g, rfl⟩ := guarded h
    exact ⟨1, .inl (k73 _ _)⟩
  · cases h

theorem v72 : ∀ args blk r, s72 args blk = (true, r) → ∃ n, runF E (callOf L73) n 72 args blk = some r ∨ run E n 72 args blk = (true, r) := by
  intro args blk r h
  unfold s72 at h
  split at h
  · obtain ⟨g, rfl⟩ := guarded h
    obtain ⟨n, hn⟩ := k72 _ (of_decide_eq_true g)
    exact ⟨n, .inl hn⟩
  · cases h

theorem v45 : ∀ args blk r, s45 args blk = (true, r) → ∃ n, runF E (callOf L72) n 45 args blk = some r ∨ run E n 45 args blk = (true, r) := by
  intro args blk r h
  unfold s45 at h
  split at h
  · obtain ⟨g, rfl⟩ := guarded h
    exact ⟨1, .inl (k45 _ _ _ _ _ _)⟩
  · cases h

theorem v47 : ∀ args blk r, s47 args blk = (true, r) → ∃ n, runF E (callOf L45) n 47 args blk = some r ∨ run E n 47 args blk = (true, r) := by
  intro args blk r h
  unfold s47 at h
  split at h
  · obtain ⟨g, rfl⟩ := guarded h
    exact ⟨1, .inl (k47 _ _ _ _ _ _)⟩
  · cases h

theorem v53 : ∀ args blk r, s53 args blk = (true, r) → ∃ n, runF E (callOf L47) n 53 args blk = some r ∨ run E n 53 args blk = (true, r) := by
  intro args blk r h
  unfold s53 at h
  split at h
  · obtain ⟨g, rfl⟩ := guarded h
    obtain ⟨n, hn⟩ := k53 _ _ _ _ _ _ (of_decide_eq_true g)
    exact ⟨n, .inl hn⟩
  · cases h

theorem v63 : ∀ args blk r, s63 args blk = (true, r) → ∃ n, runF E (callOf L53) n 63 args blk = some r ∨ run E n 63 args blk = (true, r) := by
  intro args blk r h
  unfold s63 at h
  split at h
  · obtain ⟨g, rfl⟩ := guarded h
    obtain ⟨n, hn⟩ := k63 _ _ g
    exact ⟨n, .inl hn⟩
  · obtain ⟨g, rfl⟩ := guarded h
    obtain ⟨n, hn⟩ := k63c _ g
    exact ⟨n, .inl hn⟩
  · cases h

theorem v83 : ∀ args blk r, s83 args blk = (true, r) → ∃ n, runF E (callOf L63) n 83 args blk = some r ∨ run E n 83 args blk = (true, r) := by
  intro args blk r h
  unfold s83 at h
  split at h
  · obtain ⟨g, rfl⟩ := guarded h
    obtain ⟨n, hn⟩ := k83 _ _ g
    exact ⟨n, .inl hn⟩
  · cases h

theorem v65 : ∀ args blk r, s65 args blk = (true, r) → ∃ n, runF E (callOf L83) n 65 args blk = some r ∨ run E n 65 args blk = (true, r) := by
  intro args blk r h
  unfold s65 at h
  split at h
  · obtain ⟨g, rfl⟩ := guarded h
    obtain ⟨n, hn⟩ := k65 _ g
    exact ⟨n, .inl hn⟩
  · cases h

theorem v69 : ∀ args blk r, s69 args blk = (true, r) → ∃ n, runF E (callOf L65) n 69 args blk = some r ∨ run E n 69 args blk = (true, r) := by
  intro args blk r h
  unfold s69 at h
  split at h
  · obtain ⟨g, rfl⟩ := guarded h
    obtain ⟨n, hn⟩ := k69 _ g
    exact ⟨n, .inl hn⟩
  · cases h

theorem v82 : ∀ args blk r, s82 args blk = (true, r) → ∃ n, runF E (callOf L69) n 82 args blk = some r ∨ run E n 82 args blk = (true, r) := by
  intro args blk r h
  unfold s82 at h
  split at h
  · obtain ⟨g, rfl⟩ := guarded h
    exact ⟨1, .inl (k82 _ _ _ g)⟩
  · cases h

theorem v64 : ∀ args blk r, s64 args blk = (true, r) → ∃ n, runF E (callOf L82) n 64 args blk = some r ∨ run E n 64 args blk = (true, r) := by
  intro args blk r h
  unfold s64 at h
  split at h
  · obtain ⟨g, rfl⟩ := guarded h
    obtain ⟨n, hn⟩ := k64 _ _ _ _ g
    exact ⟨n, .inl hn⟩
  · obtain ⟨g, rfl⟩ := guarded h
    obtain ⟨n, hn⟩ := k64c _ _ _ g
    exact ⟨n, .inl hn⟩
  · cases h

theorem v66 : ∀ args blk r, s66 args blk = (true, r) → ∃ n, runF E (callOf L64) n 66 args blk = some r ∨ run E n 66 args blk = (true, r) := by
  intro args blk r h
  unfold s66 at h
  split at h
  · obtain ⟨g, rfl⟩ := guarded h
    obtain ⟨n, hn⟩ := k66 _ g
    exact ⟨n, .inl hn⟩
  · cases h

theorem v93 : ∀ args blk r, s93 args blk = (true, r) → ∃ n, runF E (callOf L66) n 93 args blk = some r ∨ run E n 93 args blk = (true, r) := by
  intro args blk r h
  unfold s93 at h
  split at h
  · obtain ⟨g, rfl⟩ := guarded h
    exact ⟨1, .inl (k93 _ g)⟩
  · cases h

theorem v84 : ∀ args blk r, s84 args blk = (true, r) → ∃ n, runF E (callOf L93) n 84 args blk = some r ∨ run E n 84 args blk = (true, r) := by
  intro args blk r h
  unfold s84 at h
  split at h
  · obtain ⟨g, rfl⟩ := guarded h
    obtain ⟨n, hn⟩ := k84 _ _ g
    exact ⟨n, .inl hn⟩
  · cases h

theorem v67 : ∀ args blk r, s67 args blk = (true, r) → ∃ n, runF E (callOf L84) n 67 args blk = some r ∨ run E n 67 args blk = (true, r) := by
  intro args blk r h
  unfold s67 at h
  split at h
  · obtain ⟨g, rfl⟩ := guarded h
    obtain ⟨n, hn⟩ := k67 _ _ g
    exact ⟨n, .inl hn⟩
  · cases h

theorem v68 : ∀ args blk r, s68 args blk = (true, r) → ∃ n, runF E (callOf L67) n 68 args blk = some r ∨ run E n 68 args blk = (true, r) := by
  intro args blk r h
  unfold s68 at h
  split at h
  · obtain ⟨g, rfl⟩ := guarded h
    obtain ⟨n, hn⟩ := k68 _ _ _ _ g
    exact ⟨n, .inl hn⟩
  · obtain ⟨g, rfl⟩ := guarded h
    obtain ⟨n, hn⟩ := k68c _ _ _ g
    exact ⟨n, .inl hn⟩
  · cases h

theorem v70 : ∀ args blk r, s70 args blk = (true, r) → ∃ n, runF E (callOf L68) n 70 args blk = some r ∨ run E n 70 args blk = (true, r) := by
  intro args blk r h
  unfold s70 at h
  split at h
  · obtain ⟨g, rfl⟩ := guarded h
    obtain ⟨n, hn⟩ := k70 _ g
    exact ⟨n, .inl hn⟩
  · cases h

theorem v13 : ∀ args blk r, s13 args blk = (true, r) → ∃ n, runF E (callOf L70) n 13 args blk = some r ∨ run E n 13 args blk = (true, r) := by
  intro args blk r h
  unfold s13 at h
  split at h
  · obtain ⟨g, rfl⟩ := guarded h
    obtain ⟨n, hn⟩ := k13 _ g
    exact ⟨n, .inl hn⟩
  · cases h

theorem v14 : ∀ args blk r, s14 args blk = (true, r) → ∃ n, runF E (callOf L13) n 14 args blk = some r ∨ run E n 14 args blk = (true, r) := by
  intro args blk r h
  unfold s14 at h
  split at h
  · obtain ⟨g, rfl⟩ := guarded h
    obtain ⟨n, hn⟩ := k14 _ g
    exact ⟨n, .inl hn⟩
  · cases h

theorem v12 : ∀ args blk r, s12 args blk = (true, r) → ∃ n, runF E (callOf L14) n 12 args blk = some r ∨ run E n 12 args blk = (true, r) := by
  intro args blk r h
  unfold s12 at h
  split at h
  · obtain ⟨g, rfl⟩ := guarded h
    exact ⟨200, .inr aw⟩
  · cases h

theorem v3 : ∀ args blk r, s3 args blk = (true, r) → ∃ n, runF E (callOf L12) n 3 args blk = some r ∨ run E n 3 args blk = (true, r) := by
  intro args blk r h
  unfold s3 at h
  split at h
  · obtain ⟨g, rfl⟩ := guarded h
    exact ⟨1, .inl (law3 _ g)⟩
  · cases h

theorem v23 : ∀ args blk r, s23 args blk = (true, r) → ∃ n, runF E (callOf L3) n 23 args blk = some r ∨ run E n 23 args blk = (true, r) := by
  intro args blk r h
  unfold s23 at h
  split at h
  · obtain ⟨g, rfl⟩ := guarded h
    obtain ⟨n, hn⟩ := k23 _ _ g
    exact ⟨n, .inl hn⟩
  · cases h

theorem v40 : ∀ args blk r, s40 args blk = (true, r) → ∃ n, runF E (callOf L23) n 40 args blk = some r ∨ run E n 40 args blk = (true, r) := by
  intro args blk r h
  unfold s40 at h
  split at h
  · obtain ⟨g, rfl⟩ := guarded h
    obtain ⟨n, hn⟩ := k40 _ _ g
    exact ⟨n, .inl hn⟩
  · obtain ⟨g, rfl⟩ := guarded h
    obtain ⟨n, hn⟩ := k40c _ g
    exact ⟨n, .inl hn⟩
  · cases h

theorem v42 : ∀ args blk r, s42 args blk = (true, r) → ∃ n, runF E (callOf L40) n 42 args blk = some r ∨ run E n 42 args blk = (true, r) := by
  intro args blk r h
  unfold s42 at h
  split at h
  · obtain ⟨g, rfl⟩ := guarded h
    obtain ⟨n, hn⟩ := k42 _ _ g
    exact ⟨n, .inl hn⟩
  · obtain ⟨g, rfl⟩ := guarded h
    obtain ⟨n, hn⟩ := k42c _ g
    exact ⟨n, .inl hn⟩
  · cases h

theorem v41 : ∀ args blk r, s41 args blk = (true, r) → ∃ n, runF E (callOf L42) n 41 args blk = some r ∨ run E n 41 args blk = (true, r) := by
  intro args blk r h
  unfold s41 at h
  split at h
  · obtain ⟨g, rfl⟩ := guarded h
    obtain ⟨n, hn⟩ := k41 _ g
    exact ⟨n, .inl hn⟩
  · cases h

theorem v43 : ∀ args blk r, s43 args blk = (true, r) → ∃ n, runF E (callOf L41) n 43 args blk = some r ∨ run E n 43 args blk = (true, r) := by
  intro args blk r h
  unfold s43 at h
  split at h
  · obtain ⟨g, rfl⟩ := guarded h
    obtain ⟨n, hn⟩ := k43 _ g
    exact ⟨n, .inl hn⟩
  · cases h

theorem v10 : ∀ args blk r, s10 args blk = (true, r) → ∃ n, runF E (callOf L43) n 10 args blk = some r ∨ run E n 10 args blk = (true, r) := by
  intro args blk r h
  unfold s10 at h
  split at h
  · obtain ⟨g, rfl⟩ := guarded h
    exact ⟨1, .inl (law10 _ _ g)⟩
  · cases h

theorem v11 : ∀ args blk r, s11 args blk = (true, r) → ∃ n, runF E (callOf L10) n 11 args blk = some r ∨ run E n 11 args blk = (true, r) := by
  intro args blk r h
  unfold s11 at h
  split at h
  · obtain ⟨g, rfl⟩ := guarded h
    exact ⟨1, .inl (law11 _ g)⟩
  · cases h

theorem valid : Valid E L := trivial
theorem valid85 : Valid E L85 := ⟨v85, valid⟩
theorem valid86 : Valid E L86 := ⟨v86, valid85⟩
theorem valid88 : Valid E L88 := ⟨v88, valid86⟩
theorem valid74 : Valid E L74 := ⟨v74, valid88⟩
theorem valid89 : Valid E L89 := ⟨v89, valid74⟩
theorem valid71 : Valid E L71 := ⟨v71, valid89⟩
theorem valid75 : Valid E L75 := ⟨v75, valid71⟩
theorem valid44 : Valid E L44 := ⟨v44, valid75⟩
theorem valid46 : Valid E L46 := ⟨v46, valid44⟩
theorem valid87 : Valid E L87 := ⟨v87, valid46⟩
theorem valid73 : Valid E L73 := ⟨v73, valid87⟩
theorem valid72 : Valid E L72 := ⟨v72, valid73⟩
theorem valid45 : Valid E L45 := ⟨v45, valid72⟩
theorem valid47 : Valid E L47 := ⟨v47, valid45⟩
theorem valid53 : Valid E L53 := ⟨v53, valid47⟩
theorem valid63 : Valid E L63 := ⟨v63, valid53⟩
theorem valid83 : Valid E L83 := ⟨v83, valid63⟩
theorem valid65 : Valid E L65 := ⟨v65, valid83⟩
theorem valid69 : Valid E L69 := ⟨v69, valid65⟩
theorem valid82 : Valid E L82 := ⟨v82, valid69⟩
theorem valid64 : Valid E L64 := ⟨v64, valid82⟩
theorem valid66 : Valid E L66 := ⟨v66, valid64⟩
theorem valid93 : Valid E L93 := ⟨v93, valid66⟩
theorem valid84 : Valid E L84 := ⟨v84, valid93⟩
theorem valid67 : Valid E L67 := ⟨v67, valid84⟩
theorem valid68 : Valid E L68 := ⟨v68, valid67⟩
theorem valid70 : Valid E L70 := ⟨v70, valid68⟩
theorem valid13 : Valid E L13 := ⟨v13, valid70⟩
theorem valid14 : Valid E L14 := ⟨v14, valid13⟩
theorem valid12 : Valid E L12 := ⟨v12, valid14⟩
theorem valid3 : Valid E L3 := ⟨v3, valid12⟩
theorem valid23 : Valid E L23 := ⟨v23, valid3⟩
theorem valid40 : Valid E L40 := ⟨v40, valid23⟩
theorem valid42 : Valid E L42 := ⟨v42, valid40⟩
theorem valid41 : Valid E L41 := ⟨v41, valid42⟩
theorem valid43 : Valid E L43 := ⟨v43, valid41⟩
theorem valid10 : Valid E L10 := ⟨v10, valid43⟩
theorem valid11 : Valid E L11 := ⟨v11, valid10⟩

theorem okB_wf {x : List (List Cell)} (h : Cell.Wf E (.slice 5 x)) : okB x = true := by
  obtain ⟨h1, _, h3⟩ := wf_slice (ks := [.int .u8]) h (by kernel_rfl)
  refine List.all_eq_true.2 fun r hr => ?_
  obtain ⟨c, r', rfl, hc, hr'⟩ := row_cons (h1 r hr)
  obtain ⟨n, rfl⟩ := kind_int hc
  obtain rfl := row_nil hr'
  have := wf_u8 (h3 _ hr _ List.mem_cons_self)
  simp only [isByte, Bool.and_eq_true, decide_eq_true_eq]
  omega

theorem bulk_mem {r : List Cell} : ∀ {c : List (List Cell)}, r ∈ c → bulkR r ≤ bulkRs c
  | [], h => by cases h
  | q :: c, h => by
    simp only [bulkRs]
    rcases List.mem_cons.1 h with rfl | h
    · omega
    · have := bulk_mem h
      omega

/-- the lists within are no longer than the bulk -/
theorem short_wf {c : List (List Cell)} (h : Cell.Wf E (.slice 45 c)) (hb : bulkRs c ≤ 1048576) : shortRows c = true := by
  obtain ⟨h1, _, h3⟩ := wf_slice (ks := [.int .i64, .int .i64, .slice 63]) h (by kernel_rfl)
  refine List.all_eq_true.2 fun r hr => ?_
  obtain ⟨c0, r0, rfl, _, q0⟩ := row_cons (h1 r hr)
  obtain ⟨c1, r1, rfl, _, q1⟩ := row_cons q0
  obtain ⟨c2, r2, rfl, e2, q2⟩ := row_cons q1
  obtain ⟨l, rfl⟩ := kind_slice e2
  have hw := h3 _ hr (.slice 63 l) (by simp)
  have hl := len_bulk (k := .int .i64) (ks := [.int .i64, .int .i64, .int .i64, .int .i64, .int .i64, .int .i64]) (wf_slice (ks := [.int .i64, .int .i64, .int .i64, .int .i64, .int .i64, .int .i64, .int .i64]) hw (by kernel_rfl)).1
  have hm := bulk_mem hr
  simp only [bulkR, bulkC] at hm
  have e : nl [c0, c1, .slice 63 l] 2 = l := rfl
  unfold shortRow
  obtain rfl := row_nil q2
  rw [e]
  simp only [decide_eq_true_eq]
  simp only [bulkR] at hm
  omega

end Go.Proofs.Ytohikghidhdhjaa
