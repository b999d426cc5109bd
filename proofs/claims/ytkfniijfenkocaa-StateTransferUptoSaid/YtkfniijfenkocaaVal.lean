/-
  The contracts, one on top of the other.
-/
import Derived.Test.YtkfniijfenkocaaStD
import Derived.Test.YtkfniijfenkocaaAw
import Derived.Test.YtkfniijfenkocaaA30
namespace Go.Proofs.Ytkfniijfenkocaa
open Go.Abs

theorem v70 : ∀ args blk r, s70 args blk = (true, r) → ∃ n, runF E (callOf L) n 70 args blk = some r ∨ run E n 70 args blk = (true, r) := by
  intro args blk r h
  unfold s70 at h
  split at h
  · obtain ⟨g, rfl⟩ := guarded h
    exact ⟨1, .inl (k70 _)⟩
  · cases h

theorem v87 : ∀ args blk r, s87 args blk = (true, r) → ∃ n, runF E (callOf L70) n 87 args blk = some r ∨ run E n 87 args blk = (true, r) := by
  intro args blk r h
  unfold s87 at h
  split at h
  · obtain ⟨g, rfl⟩ := guarded h
    exact ⟨1, .inl (k87 _)⟩
  · cases h

theorem v66 : ∀ args blk r, s66 args blk = (true, r) → ∃ n, runF E (callOf L87) n 66 args blk = some r ∨ run E n 66 args blk = (true, r) := by
  intro args blk r h
  unfold s66 at h
  split at h
  · obtain ⟨g, rfl⟩ := guarded h
    exact ⟨1, .inl (k66 _ _ _ _ _)⟩
  · cases h

theorem v71 : ∀ args blk r, s71 args blk = (true, r) → ∃ n, runF E (callOf L66) n 71 args blk = some r ∨ run E n 71 args blk = (true, r) := by
  intro args blk r h
  unfold s71 at h
  split at h
  · obtain ⟨g, rfl⟩ := guarded h
    exact ⟨1, .inl (k71 _ _ _ _ _)⟩
  · cases h

theorem v89 : ∀ args blk r, s89 args blk = (true, r) → ∃ n, runF E (callOf L71) n 89 args blk = some r ∨ run E n 89 args blk = (true, r) := by
  intro args blk r h
  unfold s89 at h
  split at h
  · obtain ⟨g, rfl⟩ := guarded h
    exact ⟨1, .inl (k89 _ _ _ _ _)⟩
  · cases h

theorem v102 : ∀ args blk r, s102 args blk = (true, r) → ∃ n, runF E (callOf L89) n 102 args blk = some r ∨ run E n 102 args blk = (true, r) := by
  intro args blk r h
  unfold s102 at h
  split at h
  · obtain ⟨g, rfl⟩ := guarded h
    obtain ⟨n, hn⟩ := k102 _ (of_decide_eq_true g)
    exact ⟨n, .inl hn⟩
  · cases h

theorem v88 : ∀ args blk r, s88 args blk = (true, r) → ∃ n, runF E (callOf L102) n 88 args blk = some r ∨ run E n 88 args blk = (true, r) := by
  intro args blk r h
  unfold s88 at h
  split at h
  · obtain ⟨g, rfl⟩ := guarded h
    exact ⟨1, .inl (k88 _ (of_decide_eq_true g))⟩
  · cases h

theorem v67 : ∀ args blk r, s67 args blk = (true, r) → ∃ n, runF E (callOf L88) n 67 args blk = some r ∨ run E n 67 args blk = (true, r) := by
  intro args blk r h
  unfold s67 at h
  split at h
  · obtain ⟨g, rfl⟩ := guarded h
    exact ⟨1, .inl (k67 _ _ _ _ (of_decide_eq_true g))⟩
  · cases h

theorem v72 : ∀ args blk r, s72 args blk = (true, r) → ∃ n, runF E (callOf L67) n 72 args blk = some r ∨ run E n 72 args blk = (true, r) := by
  intro args blk r h
  unfold s72 at h
  split at h
  · obtain ⟨g, rfl⟩ := guarded h
    obtain ⟨n, hn⟩ := k72 _ _ _ _ (of_decide_eq_true g)
    exact ⟨n, .inl hn⟩
  · cases h

theorem v40 : ∀ args blk r, s40 args blk = (true, r) → ∃ n, runF E (callOf L72) n 40 args blk = some r ∨ run E n 40 args blk = (true, r) := by
  intro args blk r h
  unfold s40 at h
  split at h
  · obtain ⟨g, rfl⟩ := guarded h
    obtain ⟨n, hn⟩ := k40 _ _ _ _
    exact ⟨n, .inl hn⟩
  · cases h

theorem v42 : ∀ args blk r, s42 args blk = (true, r) → ∃ n, runF E (callOf L40) n 42 args blk = some r ∨ run E n 42 args blk = (true, r) := by
  intro args blk r h
  unfold s42 at h
  split at h
  · obtain ⟨g, rfl⟩ := guarded h
    obtain ⟨n, hn⟩ := k42 _ _ _ _
    exact ⟨n, .inl hn⟩
  · cases h

theorem v90 : ∀ args blk r, s90 args blk = (true, r) → ∃ n, runF E (callOf L42) n 90 args blk = some r ∨ run E n 90 args blk = (true, r) := by
  intro args blk r h
  unfold s90 at h
  split at h
  · obtain ⟨g, rfl⟩ := guarded h
    exact ⟨1, .inl (k90 _)⟩
  · cases h

theorem v69 : ∀ args blk r, s69 args blk = (true, r) → ∃ n, runF E (callOf L90) n 69 args blk = some r ∨ run E n 69 args blk = (true, r) := by
  intro args blk r h
  unfold s69 at h
  split at h
  · obtain ⟨g, rfl⟩ := guarded h
    exact ⟨1, .inl (k69 _ _)⟩
  · cases h

theorem v68 : ∀ args blk r, s68 args blk = (true, r) → ∃ n, runF E (callOf L69) n 68 args blk = some r ∨ run E n 68 args blk = (true, r) := by
  intro args blk r h
  unfold s68 at h
  split at h
  · obtain ⟨g, rfl⟩ := guarded h
    obtain ⟨n, hn⟩ := k68 _ (of_decide_eq_true g)
    exact ⟨n, .inl hn⟩
  · cases h

theorem v41 : ∀ args blk r, s41 args blk = (true, r) → ∃ n, runF E (callOf L68) n 41 args blk = some r ∨ run E n 41 args blk = (true, r) := by
  intro args blk r h
  unfold s41 at h
  split at h
  · obtain ⟨g, rfl⟩ := guarded h
    exact ⟨1, .inl (k41 _ _ _ _ _ _ _ _)⟩
  · cases h

theorem v43 : ∀ args blk r, s43 args blk = (true, r) → ∃ n, runF E (callOf L41) n 43 args blk = some r ∨ run E n 43 args blk = (true, r) := by
  intro args blk r h
  unfold s43 at h
  split at h
  · obtain ⟨g, rfl⟩ := guarded h
    exact ⟨1, .inl (k43 _ _ _ _ _ _ _ _)⟩
  · cases h

theorem v51 : ∀ args blk r, s51 args blk = (true, r) → ∃ n, runF E (callOf L43) n 51 args blk = some r ∨ run E n 51 args blk = (true, r) := by
  intro args blk r h
  unfold s51 at h
  split at h
  · obtain ⟨g, rfl⟩ := guarded h
    obtain ⟨n, hn⟩ := k51 _ _ _ _ _ _ _ _ (of_decide_eq_true g)
    exact ⟨n, .inl hn⟩
  · cases h

theorem v58 : ∀ args blk r, s58 args blk = (true, r) → ∃ n, runF E (callOf L51) n 58 args blk = some r ∨ run E n 58 args blk = (true, r) := by
  intro args blk r h
  unfold s58 at h
  split at h
  · obtain ⟨g, rfl⟩ := guarded h
    obtain ⟨n, hn⟩ := k58 _ _ g
    exact ⟨n, .inl hn⟩
  · obtain ⟨g, rfl⟩ := guarded h
    obtain ⟨n, hn⟩ := k58c _ g
    exact ⟨n, .inl hn⟩
  · cases h

theorem v82 : ∀ args blk r, s82 args blk = (true, r) → ∃ n, runF E (callOf L58) n 82 args blk = some r ∨ run E n 82 args blk = (true, r) := by
  intro args blk r h
  unfold s82 at h
  split at h
  · obtain ⟨g, rfl⟩ := guarded h
    obtain ⟨n, hn⟩ := k82 _ _ g
    exact ⟨n, .inl hn⟩
  · cases h

theorem v78 : ∀ args blk r, s78 args blk = (true, r) → ∃ n, runF E (callOf L82) n 78 args blk = some r ∨ run E n 78 args blk = (true, r) := by
  intro args blk r h
  unfold s78 at h
  split at h
  · obtain ⟨g, rfl⟩ := guarded h
    exact ⟨1, .inl (k78 _ _ g)⟩
  · cases h

theorem v83 : ∀ args blk r, s83 args blk = (true, r) → ∃ n, runF E (callOf L78) n 83 args blk = some r ∨ run E n 83 args blk = (true, r) := by
  intro args blk r h
  unfold s83 at h
  split at h
  · obtain ⟨g, rfl⟩ := guarded h
    exact ⟨1, .inl (k83 _ _ g)⟩
  · cases h

theorem v99 : ∀ args blk r, s99 args blk = (true, r) → ∃ n, runF E (callOf L83) n 99 args blk = some r ∨ run E n 99 args blk = (true, r) := by
  intro args blk r h
  unfold s99 at h
  split at h
  · obtain ⟨g, rfl⟩ := guarded h
    exact ⟨1, .inl (k99 _ g)⟩
  · cases h

theorem v79 : ∀ args blk r, s79 args blk = (true, r) → ∃ n, runF E (callOf L99) n 79 args blk = some r ∨ run E n 79 args blk = (true, r) := by
  intro args blk r h
  unfold s79 at h
  split at h
  · obtain ⟨g, rfl⟩ := guarded h
    exact ⟨1, .inl (k79 _ _ g)⟩
  · cases h

theorem v84 : ∀ args blk r, s84 args blk = (true, r) → ∃ n, runF E (callOf L79) n 84 args blk = some r ∨ run E n 84 args blk = (true, r) := by
  intro args blk r h
  unfold s84 at h
  split at h
  · obtain ⟨g, rfl⟩ := guarded h
    exact ⟨1, .inl (k84 _ _ g)⟩
  · cases h

theorem v59 : ∀ args blk r, s59 args blk = (true, r) → ∃ n, runF E (callOf L84) n 59 args blk = some r ∨ run E n 59 args blk = (true, r) := by
  intro args blk r h
  unfold s59 at h
  split at h
  · obtain ⟨g, rfl⟩ := guarded h
    obtain ⟨n, hn⟩ := k59 _ _ _ _ _ g
    exact ⟨n, .inl hn⟩
  · obtain ⟨g, rfl⟩ := guarded h
    obtain ⟨n, hn⟩ := k59c _ _ _ _ g
    exact ⟨n, .inl hn⟩
  · cases h

theorem v62 : ∀ args blk r, s62 args blk = (true, r) → ∃ n, runF E (callOf L59) n 62 args blk = some r ∨ run E n 62 args blk = (true, r) := by
  intro args blk r h
  unfold s62 at h
  split at h
  · obtain ⟨g, rfl⟩ := guarded h
    obtain ⟨n, hn⟩ := k62 _ _ g
    exact ⟨n, .inl hn⟩
  · cases h

theorem v63 : ∀ args blk r, s63 args blk = (true, r) → ∃ n, runF E (callOf L62) n 63 args blk = some r ∨ run E n 63 args blk = (true, r) := by
  intro args blk r h
  unfold s63 at h
  split at h
  · obtain ⟨g, rfl⟩ := guarded h
    obtain ⟨n, hn⟩ := k63 _ _ _ _ _ g
    exact ⟨n, .inl hn⟩
  · obtain ⟨g, rfl⟩ := guarded h
    obtain ⟨n, hn⟩ := k63c _ _ _ _ g
    exact ⟨n, .inl hn⟩
  · cases h

theorem v60 : ∀ args blk r, s60 args blk = (true, r) → ∃ n, runF E (callOf L63) n 60 args blk = some r ∨ run E n 60 args blk = (true, r) := by
  intro args blk r h
  unfold s60 at h
  split at h
  · obtain ⟨g, rfl⟩ := guarded h
    obtain ⟨n, hn⟩ := k60 _ g
    exact ⟨n, .inl hn⟩
  · cases h

theorem v64 : ∀ args blk r, s64 args blk = (true, r) → ∃ n, runF E (callOf L60) n 64 args blk = some r ∨ run E n 64 args blk = (true, r) := by
  intro args blk r h
  unfold s64 at h
  split at h
  · obtain ⟨g, rfl⟩ := guarded h
    obtain ⟨n, hn⟩ := k64 _ g
    exact ⟨n, .inl hn⟩
  · cases h

theorem v105 : ∀ args blk r, s105 args blk = (true, r) → ∃ n, runF E (callOf L64) n 105 args blk = some r ∨ run E n 105 args blk = (true, r) := by
  intro args blk r h
  unfold s105 at h
  split at h
  · obtain ⟨g, rfl⟩ := guarded h
    exact ⟨1, .inl (k105 _ g)⟩
  · cases h

theorem v107 : ∀ args blk r, s107 args blk = (true, r) → ∃ n, runF E (callOf L105) n 107 args blk = some r ∨ run E n 107 args blk = (true, r) := by
  intro args blk r h
  unfold s107 at h
  split at h
  · obtain ⟨g, rfl⟩ := guarded h
    exact ⟨1, .inl (k107 _ g)⟩
  · cases h

theorem v104 : ∀ args blk r, s104 args blk = (true, r) → ∃ n, runF E (callOf L107) n 104 args blk = some r ∨ run E n 104 args blk = (true, r) := by
  intro args blk r h
  unfold s104 at h
  split at h
  · obtain ⟨g, rfl⟩ := guarded h
    exact ⟨1, .inl (k104 _ g)⟩
  · cases h

theorem v106 : ∀ args blk r, s106 args blk = (true, r) → ∃ n, runF E (callOf L104) n 106 args blk = some r ∨ run E n 106 args blk = (true, r) := by
  intro args blk r h
  unfold s106 at h
  split at h
  · obtain ⟨g, rfl⟩ := guarded h
    exact ⟨1, .inl (k106 _ g)⟩
  · cases h

theorem v85 : ∀ args blk r, s85 args blk = (true, r) → ∃ n, runF E (callOf L106) n 85 args blk = some r ∨ run E n 85 args blk = (true, r) := by
  intro args blk r h
  unfold s85 at h
  split at h
  · obtain ⟨g, rfl⟩ := guarded h
    exact ⟨1, .inl (k85 _ g)⟩
  · cases h

theorem v96 : ∀ args blk r, s96 args blk = (true, r) → ∃ n, runF E (callOf L85) n 96 args blk = some r ∨ run E n 96 args blk = (true, r) := by
  intro args blk r h
  unfold s96 at h
  split at h
  · obtain ⟨g, rfl⟩ := guarded h
    exact ⟨1, .inl (k96 _ _ _ _ _ g)⟩
  · cases h

theorem v80 : ∀ args blk r, s80 args blk = (true, r) → ∃ n, runF E (callOf L96) n 80 args blk = some r ∨ run E n 80 args blk = (true, r) := by
  intro args blk r h
  unfold s80 at h
  split at h
  · obtain ⟨g, rfl⟩ := guarded h
    exact ⟨1, .inl (k80 _ _ _ g)⟩
  · cases h

theorem v97 : ∀ args blk r, s97 args blk = (true, r) → ∃ n, runF E (callOf L80) n 97 args blk = some r ∨ run E n 97 args blk = (true, r) := by
  intro args blk r h
  unfold s97 at h
  split at h
  · obtain ⟨g, rfl⟩ := guarded h
    exact ⟨1, .inl (k97 _ _ _ g)⟩
  · cases h

theorem v98 : ∀ args blk r, s98 args blk = (true, r) → ∃ n, runF E (callOf L97) n 98 args blk = some r ∨ run E n 98 args blk = (true, r) := by
  intro args blk r h
  unfold s98 at h
  split at h
  · obtain ⟨g, rfl⟩ := guarded h
    exact ⟨1, .inl (k98 _ _ _ g)⟩
  · cases h

theorem v81 : ∀ args blk r, s81 args blk = (true, r) → ∃ n, runF E (callOf L98) n 81 args blk = some r ∨ run E n 81 args blk = (true, r) := by
  intro args blk r h
  unfold s81 at h
  split at h
  · obtain ⟨g, rfl⟩ := guarded h
    exact ⟨1, .inl (k81 _ _ _ g)⟩
  · cases h

theorem v61 : ∀ args blk r, s61 args blk = (true, r) → ∃ n, runF E (callOf L81) n 61 args blk = some r ∨ run E n 61 args blk = (true, r) := by
  intro args blk r h
  unfold s61 at h
  split at h
  · obtain ⟨g, rfl⟩ := guarded h
    obtain ⟨n, hn⟩ := k61 _ g
    exact ⟨n, .inl hn⟩
  · cases h

theorem v100 : ∀ args blk r, s100 args blk = (true, r) → ∃ n, runF E (callOf L61) n 100 args blk = some r ∨ run E n 100 args blk = (true, r) := by
  intro args blk r h
  unfold s100 at h
  split at h
  · obtain ⟨g, rfl⟩ := guarded h
    obtain ⟨n, hn⟩ := k100 _ _ g
    exact ⟨n, .inl hn⟩
  · cases h

theorem v101 : ∀ args blk r, s101 args blk = (true, r) → ∃ n, runF E (callOf L100) n 101 args blk = some r ∨ run E n 101 args blk = (true, r) := by
  intro args blk r h
  unfold s101 at h
  split at h
  · obtain ⟨g, rfl⟩ := guarded h
    exact ⟨1, .inl (k101 _ g)⟩
  · cases h

theorem v86 : ∀ args blk r, s86 args blk = (true, r) → ∃ n, runF E (callOf L101) n 86 args blk = some r ∨ run E n 86 args blk = (true, r) := by
  intro args blk r h
  unfold s86 at h
  split at h
  · obtain ⟨g, rfl⟩ := guarded h
    obtain ⟨n, hn⟩ := k86 _ g
    exact ⟨n, .inl hn⟩
  · cases h

theorem v34 : ∀ args blk r, s34 args blk = (true, r) → ∃ n, runF E (callOf L86) n 34 args blk = some r ∨ run E n 34 args blk = (true, r) := by
  intro args blk r h
  unfold s34 at h
  split at h
  · obtain ⟨g, rfl⟩ := guarded h
    exact ⟨1, .inl (k34 _ _ (of_decide_eq_true g))⟩
  · cases h

theorem v54 : ∀ args blk r, s54 args blk = (true, r) → ∃ n, runF E (callOf L34) n 54 args blk = some r ∨ run E n 54 args blk = (true, r) := by
  intro args blk r h
  unfold s54 at h
  split at h
  · obtain ⟨g, rfl⟩ := guarded h
    simp only [Bool.and_eq_true, decide_eq_true_eq] at g
    obtain ⟨n, hn⟩ := k54 _ _ _ g.1 g.2
    exact ⟨n, .inl hn⟩
  · cases h

theorem v93 : ∀ args blk r, s93 args blk = (true, r) → ∃ n, runF E (callOf L54) n 93 args blk = some r ∨ run E n 93 args blk = (true, r) := by
  intro args blk r h
  unfold s93 at h
  split at h
  · obtain ⟨g, rfl⟩ := guarded h
    exact ⟨1, .inl (k93 _)⟩
  · cases h

theorem v76 : ∀ args blk r, s76 args blk = (true, r) → ∃ n, runF E (callOf L93) n 76 args blk = some r ∨ run E n 76 args blk = (true, r) := by
  intro args blk r h
  unfold s76 at h
  split at h
  · obtain ⟨g, rfl⟩ := guarded h
    exact ⟨1, .inl (k76 _ _)⟩
  · cases h

theorem v55 : ∀ args blk r, s55 args blk = (true, r) → ∃ n, runF E (callOf L76) n 55 args blk = some r ∨ run E n 55 args blk = (true, r) := by
  intro args blk r h
  unfold s55 at h
  split at h
  · obtain ⟨g, rfl⟩ := guarded h
    obtain ⟨n, hn⟩ := k55 _ _ _
    exact ⟨n, .inl hn⟩
  · cases h

theorem v25 : ∀ args blk r, s25 args blk = (true, r) → ∃ n, runF E (callOf L55) n 25 args blk = some r ∨ run E n 25 args blk = (true, r) := by
  intro args blk r h
  unfold s25 at h
  split at h
  · obtain ⟨g, rfl⟩ := guarded h
    obtain ⟨n, hn⟩ := k25 _ (of_decide_eq_true g)
    exact ⟨n, .inl hn⟩
  · cases h

theorem v95 : ∀ args blk r, s95 args blk = (true, r) → ∃ n, runF E (callOf L25) n 95 args blk = some r ∨ run E n 95 args blk = (true, r) := by
  intro args blk r h
  unfold s95 at h
  split at h
  · obtain ⟨g, rfl⟩ := guarded h
    exact ⟨1, .inl (k95 _ _ _)⟩
  · cases h

theorem v94 : ∀ args blk r, s94 args blk = (true, r) → ∃ n, runF E (callOf L95) n 94 args blk = some r ∨ run E n 94 args blk = (true, r) := by
  intro args blk r h
  unfold s94 at h
  split at h
  · obtain ⟨g, rfl⟩ := guarded h
    obtain ⟨n, hn⟩ := k94 _ _ g
    exact ⟨n, .inl hn⟩
  · cases h

theorem v77 : ∀ args blk r, s77 args blk = (true, r) → ∃ n, runF E (callOf L94) n 77 args blk = some r ∨ run E n 77 args blk = (true, r) := by
  intro args blk r h
  unfold s77 at h
  split at h
  · obtain ⟨g, rfl⟩ := guarded h
    exact ⟨1, .inl (k77 _ _ g)⟩
  · cases h

theorem v57 : ∀ args blk r, s57 args blk = (true, r) → ∃ n, runF E (callOf L77) n 57 args blk = some r ∨ run E n 57 args blk = (true, r) := by
  intro args blk r h
  unfold s57 at h
  split at h
  · obtain ⟨g, rfl⟩ := guarded h
    exact ⟨1, .inl (k57 _ _ g)⟩
  · cases h

theorem v46 : ∀ args blk r, s46 args blk = (true, r) → ∃ n, runF E (callOf L57) n 46 args blk = some r ∨ run E n 46 args blk = (true, r) := by
  intro args blk r h
  unfold s46 at h
  split at h
  · obtain ⟨g, rfl⟩ := guarded h
    obtain ⟨n, hn⟩ := k46 _ _ g
    exact ⟨n, .inl hn⟩
  · cases h

theorem v45 : ∀ args blk r, s45 args blk = (true, r) → ∃ n, runF E (callOf L46) n 45 args blk = some r ∨ run E n 45 args blk = (true, r) := by
  intro args blk r h
  unfold s45 at h
  split at h
  · obtain ⟨g, rfl⟩ := guarded h
    obtain ⟨n, hn⟩ := k45 _ _ _ g
    exact ⟨n, .inl hn⟩
  · cases h

theorem v16 : ∀ args blk r, s16 args blk = (true, r) → ∃ n, runF E (callOf L45) n 16 args blk = some r ∨ run E n 16 args blk = (true, r) := by
  intro args blk r h
  unfold s16 at h
  split at h
  · obtain ⟨g, rfl⟩ := guarded h
    obtain ⟨n, hn⟩ := k16 _ _ g
    exact ⟨n, .inl hn⟩
  · cases h

theorem v27 : ∀ args blk r, s27 args blk = (true, r) → ∃ n, runF E (callOf L16) n 27 args blk = some r ∨ run E n 27 args blk = (true, r) := by
  intro args blk r h
  unfold s27 at h
  split at h
  · obtain ⟨g, rfl⟩ := guarded h
    obtain ⟨n, hn⟩ := k27 _ _ g
    exact ⟨n, .inl hn⟩
  · cases h

theorem v28 : ∀ args blk r, s28 args blk = (true, r) → ∃ n, runF E (callOf L27) n 28 args blk = some r ∨ run E n 28 args blk = (true, r) := by
  intro args blk r h
  unfold s28 at h
  split at h
  · obtain ⟨g, rfl⟩ := guarded h
    obtain ⟨n, hn⟩ := k28 _ _ g
    exact ⟨n, .inl hn⟩
  · cases h

theorem v31 : ∀ args blk r, s31 args blk = (true, r) → ∃ n, runF E (callOf L28) n 31 args blk = some r ∨ run E n 31 args blk = (true, r) := by
  intro args blk r h
  unfold s31 at h
  split at h
  · obtain ⟨g, rfl⟩ := guarded h
    obtain ⟨n, hn⟩ := k31 _ g
    exact ⟨n, .inl hn⟩
  · cases h

theorem v52 : ∀ args blk r, s52 args blk = (true, r) → ∃ n, runF E (callOf L31) n 52 args blk = some r ∨ run E n 52 args blk = (true, r) := by
  intro args blk r h
  unfold s52 at h
  split at h
  · obtain ⟨g, rfl⟩ := guarded h
    exact ⟨1, .inl (k52 _ g)⟩
  · cases h

theorem v75 : ∀ args blk r, s75 args blk = (true, r) → ∃ n, runF E (callOf L52) n 75 args blk = some r ∨ run E n 75 args blk = (true, r) := by
  intro args blk r h
  unfold s75 at h
  split at h
  · obtain ⟨g, rfl⟩ := guarded h
    exact ⟨1, .inl (k75 _ _ _ _ _ g)⟩
  · cases h

theorem v13 : ∀ args blk r, s13 args blk = (true, r) → ∃ n, runF E (callOf L75) n 13 args blk = some r ∨ run E n 13 args blk = (true, r) := by
  intro args blk r h
  unfold s13 at h
  split at h
  · obtain ⟨g, rfl⟩ := guarded h
    obtain ⟨n, hn⟩ := k13 _ g
    exact ⟨n, .inl hn⟩
  · cases h

theorem v14 : ∀ args blk r, s14 args blk = (true, r) → ∃ n, runF E (callOf L13) n 14 args blk = some r ∨ run E n 14 args blk = (true, r) := by
  intro args blk r h
  unfold s14 at h
  split at h
  · obtain ⟨g, rfl⟩ := guarded h
    obtain ⟨n, hn⟩ := k14 _ g
    exact ⟨n, .inl hn⟩
  · cases h

theorem v22 : ∀ args blk r, s22 args blk = (true, r) → ∃ n, runF E (callOf L14) n 22 args blk = some r ∨ run E n 22 args blk = (true, r) := by
  intro args blk r h
  unfold s22 at h
  split at h
  · obtain ⟨g, rfl⟩ := guarded h
    obtain ⟨n, hn⟩ := k22 _ _ g
    exact ⟨n, .inl hn⟩
  · cases h

theorem v36 : ∀ args blk r, s36 args blk = (true, r) → ∃ n, runF E (callOf L22) n 36 args blk = some r ∨ run E n 36 args blk = (true, r) := by
  intro args blk r h
  unfold s36 at h
  split at h
  · obtain ⟨g, rfl⟩ := guarded h
    obtain ⟨n, hn⟩ := k36 _ _ g
    exact ⟨n, .inl hn⟩
  · obtain ⟨g, rfl⟩ := guarded h
    obtain ⟨n, hn⟩ := k36c _ g
    exact ⟨n, .inl hn⟩
  · cases h

theorem v38 : ∀ args blk r, s38 args blk = (true, r) → ∃ n, runF E (callOf L36) n 38 args blk = some r ∨ run E n 38 args blk = (true, r) := by
  intro args blk r h
  unfold s38 at h
  split at h
  · obtain ⟨g, rfl⟩ := guarded h
    obtain ⟨n, hn⟩ := k38 _ _ g
    exact ⟨n, .inl hn⟩
  · obtain ⟨g, rfl⟩ := guarded h
    obtain ⟨n, hn⟩ := k38c _ g
    exact ⟨n, .inl hn⟩
  · cases h

theorem v37 : ∀ args blk r, s37 args blk = (true, r) → ∃ n, runF E (callOf L38) n 37 args blk = some r ∨ run E n 37 args blk = (true, r) := by
  intro args blk r h
  unfold s37 at h
  split at h
  · obtain ⟨g, rfl⟩ := guarded h
    obtain ⟨n, hn⟩ := k37 _ g
    exact ⟨n, .inl hn⟩
  · cases h

theorem v65 : ∀ args blk r, s65 args blk = (true, r) → ∃ n, runF E (callOf L37) n 65 args blk = some r ∨ run E n 65 args blk = (true, r) := by
  intro args blk r h
  unfold s65 at h
  split at h
  · obtain ⟨g, rfl⟩ := guarded h
    obtain ⟨n, hn⟩ := k65 _ g
    exact ⟨n, .inl hn⟩
  · cases h

theorem v39 : ∀ args blk r, s39 args blk = (true, r) → ∃ n, runF E (callOf L65) n 39 args blk = some r ∨ run E n 39 args blk = (true, r) := by
  intro args blk r h
  unfold s39 at h
  split at h
  · obtain ⟨g, rfl⟩ := guarded h
    exact ⟨1, .inl (k39 _ g)⟩
  · cases h

theorem v74 : ∀ args blk r, s74 args blk = (true, r) → ∃ n, runF E (callOf L39) n 74 args blk = some r ∨ run E n 74 args blk = (true, r) := by
  intro args blk r h
  unfold s74 at h
  split at h
  · obtain ⟨g, rfl⟩ := guarded h
    obtain ⟨n, hn⟩ := k74 _ _ _ _ _ g
    exact ⟨n, .inl hn⟩
  · obtain ⟨g, rfl⟩ := guarded h
    obtain ⟨n, hn⟩ := k74c _ _ _ _ _ _ g
    exact ⟨n, .inl hn⟩
  · cases h

theorem v49 : ∀ args blk r, s49 args blk = (true, r) → ∃ n, runF E (callOf L74) n 49 args blk = some r ∨ run E n 49 args blk = (true, r) := by
  intro args blk r h
  unfold s49 at h
  split at h
  · obtain ⟨g, rfl⟩ := guarded h
    exact ⟨1, .inl (k49 _ _ _ _ _ g)⟩
  · obtain ⟨g, rfl⟩ := guarded h
    exact ⟨1, .inl (k49c _ _ _ _ _ _ g)⟩
  · cases h

theorem v56 : ∀ args blk r, s56 args blk = (true, r) → ∃ n, runF E (callOf L49) n 56 args blk = some r ∨ run E n 56 args blk = (true, r) := by
  intro args blk r h
  unfold s56 at h
  split at h
  · obtain ⟨g, rfl⟩ := guarded h
    obtain ⟨n, hn⟩ := k56 _ _ g
    exact ⟨n, .inl hn⟩
  · obtain ⟨g, rfl⟩ := guarded h
    obtain ⟨n, hn⟩ := k56c _ _ _ g
    exact ⟨n, .inl hn⟩
  · cases h

theorem v48 : ∀ args blk r, s48 args blk = (true, r) → ∃ n, runF E (callOf L56) n 48 args blk = some r ∨ run E n 48 args blk = (true, r) := by
  intro args blk r h
  unfold s48 at h
  split at h
  · obtain ⟨g, rfl⟩ := guarded h
    exact ⟨1, .inl (k48 _ _ _ _ _ g)⟩
  · cases h

theorem v73 : ∀ args blk r, s73 args blk = (true, r) → ∃ n, runF E (callOf L48) n 73 args blk = some r ∨ run E n 73 args blk = (true, r) := by
  intro args blk r h
  unfold s73 at h
  split at h
  · obtain ⟨g, rfl⟩ := guarded h
    obtain ⟨n, hn⟩ := k73 _ _ g
    exact ⟨n, .inl hn⟩
  · cases h

theorem v47 : ∀ args blk r, s47 args blk = (true, r) → ∃ n, runF E (callOf L73) n 47 args blk = some r ∨ run E n 47 args blk = (true, r) := by
  intro args blk r h
  unfold s47 at h
  split at h
  · obtain ⟨g, rfl⟩ := guarded h
    exact ⟨1, .inl (k47 _ _ g)⟩
  · cases h

theorem v19 : ∀ args blk r, s19 args blk = (true, r) → ∃ n, runF E (callOf L47) n 19 args blk = some r ∨ run E n 19 args blk = (true, r) := by
  intro args blk r h
  unfold s19 at h
  split at h
  · obtain ⟨g, rfl⟩ := guarded h
    exact ⟨1, .inl (k19 _ _ g)⟩
  · cases h

theorem v21 : ∀ args blk r, s21 args blk = (true, r) → ∃ n, runF E (callOf L19) n 21 args blk = some r ∨ run E n 21 args blk = (true, r) := by
  intro args blk r h
  unfold s21 at h
  split at h
  · obtain ⟨g, rfl⟩ := guarded h
    exact ⟨1, .inl (k21 _ _ g)⟩
  · cases h

theorem v17 : ∀ args blk r, s17 args blk = (true, r) → ∃ n, runF E (callOf L21) n 17 args blk = some r ∨ run E n 17 args blk = (true, r) := by
  intro args blk r h
  unfold s17 at h
  split at h
  · obtain ⟨g, rfl⟩ := guarded h
    obtain ⟨n, hn⟩ := k17 _ g
    exact ⟨n, .inl hn⟩
  · cases h

theorem v53 : ∀ args blk r, s53 args blk = (true, r) → ∃ n, runF E (callOf L17) n 53 args blk = some r ∨ run E n 53 args blk = (true, r) := by
  intro args blk r h
  unfold s53 at h
  split at h
  · obtain ⟨g, rfl⟩ := guarded h
    exact ⟨1, .inl (k53 _ _ _ _ _ _ g)⟩
  · cases h

theorem v23 : ∀ args blk r, s23 args blk = (true, r) → ∃ n, runF E (callOf L53) n 23 args blk = some r ∨ run E n 23 args blk = (true, r) := by
  intro args blk r h
  unfold s23 at h
  split at h
  · obtain ⟨g, rfl⟩ := guarded h
    obtain ⟨n, hn⟩ := k23 _ _ g
    exact ⟨n, .inl hn⟩
  · cases h

theorem v29 : ∀ args blk r, s29 args blk = (true, r) → ∃ n, runF E (callOf L23) n 29 args blk = some r ∨ run E n 29 args blk = (true, r) := by
  intro args blk r h
  unfold s29 at h
  split at h
  · obtain ⟨g, rfl⟩ := guarded h
    exact ⟨1, .inl (k29 _ _ _ _ _ g)⟩
  · cases h

theorem v35 : ∀ args blk r, s35 args blk = (true, r) → ∃ n, runF E (callOf L29) n 35 args blk = some r ∨ run E n 35 args blk = (true, r) := by
  intro args blk r h
  unfold s35 at h
  split at h
  · obtain ⟨g, rfl⟩ := guarded h
    obtain ⟨n, hn⟩ := k35 _ _ g
    exact ⟨n, .inl hn⟩
  · cases h

theorem v32 : ∀ args blk r, s32 args blk = (true, r) → ∃ n, runF E (callOf L35) n 32 args blk = some r ∨ run E n 32 args blk = (true, r) := by
  intro args blk r h
  unfold s32 at h
  split at h
  · obtain ⟨g, rfl⟩ := guarded h
    obtain ⟨n, hn⟩ := k32 _ _ _ g
    exact ⟨n, .inl hn⟩
  · cases h

theorem v18 : ∀ args blk r, s18 args blk = (true, r) → ∃ n, runF E (callOf L32) n 18 args blk = some r ∨ run E n 18 args blk = (true, r) := by
  intro args blk r h
  unfold s18 at h
  split at h
  · obtain ⟨g, rfl⟩ := guarded h
    obtain ⟨n, hn⟩ := k18 _ g
    exact ⟨n, .inl hn⟩
  · cases h

theorem v50 : ∀ args blk r, s50 args blk = (true, r) → ∃ n, runF E (callOf L18) n 50 args blk = some r ∨ run E n 50 args blk = (true, r) := by
  intro args blk r h
  unfold s50 at h
  split at h
  · obtain ⟨g, rfl⟩ := guarded h
    obtain ⟨n, hn⟩ := k50 _ _ _ _ _ g
    exact ⟨n, .inl hn⟩
  · cases h

theorem v20 : ∀ args blk r, s20 args blk = (true, r) → ∃ n, runF E (callOf L50) n 20 args blk = some r ∨ run E n 20 args blk = (true, r) := by
  intro args blk r h
  unfold s20 at h
  split at h
  · obtain ⟨g, rfl⟩ := guarded h
    obtain ⟨n, hn⟩ := k20 _ _ g
    exact ⟨n, .inl hn⟩
  · cases h

theorem v24 : ∀ args blk r, s24 args blk = (true, r) → ∃ n, runF E (callOf L20) n 24 args blk = some r ∨ run E n 24 args blk = (true, r) := by
  intro args blk r h
  unfold s24 at h
  split at h
  · obtain ⟨g, rfl⟩ := guarded h
    obtain ⟨n, hn⟩ := k24 _ _ g
    exact ⟨n, .inl hn⟩
  · cases h

theorem v44 : ∀ args blk r, s44 args blk = (true, r) → ∃ n, runF E (callOf L24) n 44 args blk = some r ∨ run E n 44 args blk = (true, r) := by
  intro args blk r h
  unfold s44 at h
  split at h
  · obtain ⟨g, rfl⟩ := guarded h
    obtain ⟨n, hn⟩ := k44 _ _ g
    exact ⟨n, .inl hn⟩
  · cases h

theorem v15 : ∀ args blk r, s15 args blk = (true, r) → ∃ n, runF E (callOf L44) n 15 args blk = some r ∨ run E n 15 args blk = (true, r) := by
  intro args blk r h
  unfold s15 at h
  split at h
  · obtain ⟨g, rfl⟩ := guarded h
    obtain ⟨n, hn⟩ := k15 _ g
    exact ⟨n, .inl hn⟩
  · cases h

theorem v30 : ∀ args blk r, s30 args blk = (true, r) → ∃ n, runF E (callOf L15) n 30 args blk = some r ∨ run E n 30 args blk = (true, r) := by
  intro args blk r h
  unfold s30 at h
  split at h
  · obtain ⟨g, rfl⟩ := guarded h
    exact ⟨1, .inl (k30 _ _ _ _ _ g)⟩
  · cases h

theorem v33 : ∀ args blk r, s33 args blk = (true, r) → ∃ n, runF E (callOf L30) n 33 args blk = some r ∨ run E n 33 args blk = (true, r) := by
  intro args blk r h
  unfold s33 at h
  split at h
  · obtain ⟨g, rfl⟩ := guarded h
    obtain ⟨n, hn⟩ := k33 _ _ _ g
    exact ⟨n, .inl hn⟩
  · cases h

theorem v26 : ∀ args blk r, s26 args blk = (true, r) → ∃ n, runF E (callOf L33) n 26 args blk = some r ∨ run E n 26 args blk = (true, r) := by
  intro args blk r h
  unfold s26 at h
  split at h
  · obtain ⟨g, rfl⟩ := guarded h
    obtain ⟨n, hn⟩ := k26 _ _ g
    exact ⟨n, .inl hn⟩
  · cases h

theorem v11 : ∀ args blk r, s11 args blk = (true, r) → ∃ n, runF E (callOf L26) n 11 args blk = some r ∨ run E n 11 args blk = (true, r) := by
  intro args blk r h
  unfold s11 at h
  split at h
  · obtain ⟨g, rfl⟩ := guarded h
    exact ⟨1, .inl (k11 _ (of_decide_eq_true g))⟩
  · cases h

theorem v12 : ∀ args blk r, s12 args blk = (true, r) → ∃ n, runF E (callOf L11) n 12 args blk = some r ∨ run E n 12 args blk = (true, r) := by
  intro args blk r h
  unfold s12 at h
  split at h
  · obtain ⟨g, rfl⟩ := guarded h
    exact ⟨200, .inr aw⟩
  · cases h

theorem v3 : ∀ args blk r, s3 args blk = (true, r) → ∃ n, runF E (callOf L12) n 3 args blk = some r ∨ run E n 3 args blk = (true, r) := by
  intro args blk r h
  unfold s3 at h
  split at h
  · obtain ⟨g, rfl⟩ := guarded h
    exact ⟨1, .inl (law3 _ (of_decide_eq_true g))⟩
  · cases h

theorem v4 : ∀ args blk r, s4 args blk = (true, r) → ∃ n, runF E (callOf L3) n 4 args blk = some r ∨ run E n 4 args blk = (true, r) := by
  intro args blk r h
  unfold s4 at h
  split at h
  · obtain ⟨g, rfl⟩ := guarded h
    exact ⟨1, .inl (law4 _ _ g)⟩
  · cases h

theorem v6 : ∀ args blk r, s6 args blk = (true, r) → ∃ n, runF E (callOf L4) n 6 args blk = some r ∨ run E n 6 args blk = (true, r) := by
  intro args blk r h
  unfold s6 at h
  split at h
  · obtain ⟨g, rfl⟩ := guarded h
    exact ⟨1, .inl (law6 _ _ _ _ _ g)⟩
  · cases h

theorem v7 : ∀ args blk r, s7 args blk = (true, r) → ∃ n, runF E (callOf L6) n 7 args blk = some r ∨ run E n 7 args blk = (true, r) := by
  intro args blk r h
  unfold s7 at h
  split at h
  · obtain ⟨g, rfl⟩ := guarded h
    exact ⟨1, .inl (law7 _ _ _ g)⟩
  · cases h

theorem v9 : ∀ args blk r, s9 args blk = (true, r) → ∃ n, runF E (callOf L7) n 9 args blk = some r ∨ run E n 9 args blk = (true, r) := by
  intro args blk r h
  unfold s9 at h
  split at h
  · obtain ⟨g, rfl⟩ := guarded h
    exact ⟨1, .inl (law9 _ _ g)⟩
  · cases h

theorem v10 : ∀ args blk r, s10 args blk = (true, r) → ∃ n, runF E (callOf L9) n 10 args blk = some r ∨ run E n 10 args blk = (true, r) := by
  intro args blk r h
  unfold s10 at h
  split at h
  · obtain ⟨g, rfl⟩ := guarded h
    exact ⟨1, .inl (law10 _ g)⟩
  · cases h

theorem valid : Valid E L := trivial
theorem valid70 : Valid E L70 := ⟨v70, valid⟩
theorem valid87 : Valid E L87 := ⟨v87, valid70⟩
theorem valid66 : Valid E L66 := ⟨v66, valid87⟩
theorem valid71 : Valid E L71 := ⟨v71, valid66⟩
theorem valid89 : Valid E L89 := ⟨v89, valid71⟩
theorem valid102 : Valid E L102 := ⟨v102, valid89⟩
theorem valid88 : Valid E L88 := ⟨v88, valid102⟩
theorem valid67 : Valid E L67 := ⟨v67, valid88⟩
theorem valid72 : Valid E L72 := ⟨v72, valid67⟩
theorem valid40 : Valid E L40 := ⟨v40, valid72⟩
theorem valid42 : Valid E L42 := ⟨v42, valid40⟩
theorem valid90 : Valid E L90 := ⟨v90, valid42⟩
theorem valid69 : Valid E L69 := ⟨v69, valid90⟩
theorem valid68 : Valid E L68 := ⟨v68, valid69⟩
theorem valid41 : Valid E L41 := ⟨v41, valid68⟩
theorem valid43 : Valid E L43 := ⟨v43, valid41⟩
theorem valid51 : Valid E L51 := ⟨v51, valid43⟩
theorem valid58 : Valid E L58 := ⟨v58, valid51⟩
theorem valid82 : Valid E L82 := ⟨v82, valid58⟩
theorem valid78 : Valid E L78 := ⟨v78, valid82⟩
theorem valid83 : Valid E L83 := ⟨v83, valid78⟩
theorem valid99 : Valid E L99 := ⟨v99, valid83⟩
theorem valid79 : Valid E L79 := ⟨v79, valid99⟩
theorem valid84 : Valid E L84 := ⟨v84, valid79⟩
theorem valid59 : Valid E L59 := ⟨v59, valid84⟩
theorem valid62 : Valid E L62 := ⟨v62, valid59⟩
theorem valid63 : Valid E L63 := ⟨v63, valid62⟩
theorem valid60 : Valid E L60 := ⟨v60, valid63⟩
theorem valid64 : Valid E L64 := ⟨v64, valid60⟩
theorem valid105 : Valid E L105 := ⟨v105, valid64⟩
theorem valid107 : Valid E L107 := ⟨v107, valid105⟩
theorem valid104 : Valid E L104 := ⟨v104, valid107⟩
theorem valid106 : Valid E L106 := ⟨v106, valid104⟩
theorem valid85 : Valid E L85 := ⟨v85, valid106⟩
theorem valid96 : Valid E L96 := ⟨v96, valid85⟩
theorem valid80 : Valid E L80 := ⟨v80, valid96⟩
theorem valid97 : Valid E L97 := ⟨v97, valid80⟩
theorem valid98 : Valid E L98 := ⟨v98, valid97⟩
theorem valid81 : Valid E L81 := ⟨v81, valid98⟩
theorem valid61 : Valid E L61 := ⟨v61, valid81⟩
theorem valid100 : Valid E L100 := ⟨v100, valid61⟩
theorem valid101 : Valid E L101 := ⟨v101, valid100⟩
theorem valid86 : Valid E L86 := ⟨v86, valid101⟩
theorem valid34 : Valid E L34 := ⟨v34, valid86⟩
theorem valid54 : Valid E L54 := ⟨v54, valid34⟩
theorem valid93 : Valid E L93 := ⟨v93, valid54⟩
theorem valid76 : Valid E L76 := ⟨v76, valid93⟩
theorem valid55 : Valid E L55 := ⟨v55, valid76⟩
theorem valid25 : Valid E L25 := ⟨v25, valid55⟩
theorem valid95 : Valid E L95 := ⟨v95, valid25⟩
theorem valid94 : Valid E L94 := ⟨v94, valid95⟩
theorem valid77 : Valid E L77 := ⟨v77, valid94⟩
theorem valid57 : Valid E L57 := ⟨v57, valid77⟩
theorem valid46 : Valid E L46 := ⟨v46, valid57⟩
theorem valid45 : Valid E L45 := ⟨v45, valid46⟩
theorem valid16 : Valid E L16 := ⟨v16, valid45⟩
theorem valid27 : Valid E L27 := ⟨v27, valid16⟩
theorem valid28 : Valid E L28 := ⟨v28, valid27⟩
theorem valid31 : Valid E L31 := ⟨v31, valid28⟩
theorem valid52 : Valid E L52 := ⟨v52, valid31⟩
theorem valid75 : Valid E L75 := ⟨v75, valid52⟩
theorem valid13 : Valid E L13 := ⟨v13, valid75⟩
theorem valid14 : Valid E L14 := ⟨v14, valid13⟩
theorem valid22 : Valid E L22 := ⟨v22, valid14⟩
theorem valid36 : Valid E L36 := ⟨v36, valid22⟩
theorem valid38 : Valid E L38 := ⟨v38, valid36⟩
theorem valid37 : Valid E L37 := ⟨v37, valid38⟩
theorem valid65 : Valid E L65 := ⟨v65, valid37⟩
theorem valid39 : Valid E L39 := ⟨v39, valid65⟩
theorem valid74 : Valid E L74 := ⟨v74, valid39⟩
theorem valid49 : Valid E L49 := ⟨v49, valid74⟩
theorem valid56 : Valid E L56 := ⟨v56, valid49⟩
theorem valid48 : Valid E L48 := ⟨v48, valid56⟩
theorem valid73 : Valid E L73 := ⟨v73, valid48⟩
theorem valid47 : Valid E L47 := ⟨v47, valid73⟩
theorem valid19 : Valid E L19 := ⟨v19, valid47⟩
theorem valid21 : Valid E L21 := ⟨v21, valid19⟩
theorem valid17 : Valid E L17 := ⟨v17, valid21⟩
theorem valid53 : Valid E L53 := ⟨v53, valid17⟩
theorem valid23 : Valid E L23 := ⟨v23, valid53⟩
theorem valid29 : Valid E L29 := ⟨v29, valid23⟩
theorem valid35 : Valid E L35 := ⟨v35, valid29⟩
theorem valid32 : Valid E L32 := ⟨v32, valid35⟩
theorem valid18 : Valid E L18 := ⟨v18, valid32⟩
theorem valid50 : Valid E L50 := ⟨v50, valid18⟩
theorem valid20 : Valid E L20 := ⟨v20, valid50⟩
theorem valid24 : Valid E L24 := ⟨v24, valid20⟩
theorem valid44 : Valid E L44 := ⟨v44, valid24⟩
theorem valid15 : Valid E L15 := ⟨v15, valid44⟩
theorem valid30 : Valid E L30 := ⟨v30, valid15⟩
theorem valid33 : Valid E L33 := ⟨v33, valid30⟩
theorem valid26 : Valid E L26 := ⟨v26, valid33⟩
theorem valid11 : Valid E L11 := ⟨v11, valid26⟩
theorem valid12 : Valid E L12 := ⟨v12, valid11⟩
theorem valid3 : Valid E L3 := ⟨v3, valid12⟩
theorem valid4 : Valid E L4 := ⟨v4, valid3⟩
theorem valid6 : Valid E L6 := ⟨v6, valid4⟩
theorem valid7 : Valid E L7 := ⟨v7, valid6⟩
theorem valid9 : Valid E L9 := ⟨v9, valid7⟩
theorem valid10 : Valid E L10 := ⟨v10, valid9⟩

theorem okB_wf {x : List (List Cell)} (h : Cell.Wf E (.slice 5 x)) : okB x = true := by
  obtain ⟨h1, _, h3⟩ := wf_slice (ks := [.int .u8]) h (by kernel_rfl)
  refine List.all_eq_true.2 fun r hr => ?_
  obtain ⟨c, r', rfl, hc, hr'⟩ := row_cons (h1 r hr)
  obtain ⟨n, rfl⟩ := kind_int hc
  obtain rfl := row_nil hr'
  have := wf_u8 (h3 _ hr _ List.mem_cons_self)
  simp only [isByte, Bool.and_eq_true, decide_eq_true_eq]
  omega

theorem okN_wf {l : List (List Cell)} (h : Cell.Wf E (.slice 61 l)) : l.all (fun e => okI (nr e 3)) = true ∧ l.length < 9223372036854775808 := by
  obtain ⟨h1, h2, h3⟩ := wf_slice (ks := [.int .i64, .str, .str, .int .i64, .str]) h (by kernel_rfl)
  refine ⟨List.all_eq_true.2 fun r hr => ?_, by unfold maxLen at h2; omega⟩
  obtain ⟨c0, r0, rfl, _, q0⟩ := row_cons (h1 r hr)
  obtain ⟨c1, r1, rfl, _, q1⟩ := row_cons q0
  obtain ⟨c2, r2, rfl, _, q2⟩ := row_cons q1
  obtain ⟨c3, r3, rfl, e3, _⟩ := row_cons q2
  obtain ⟨n, rfl⟩ := kind_int e3
  have := wf_i64 (h3 _ hr (.int .i64 n) (by simp))
  show okI n = true
  unfold okI
  simp only [Bool.and_eq_true, decide_eq_true_eq]
  omega

theorem arg_wf {c : List (List Cell)} (h : Cell.Wf E (.slice 43 c)) : okArg c = true := by
  obtain ⟨h1, h2, h3⟩ := wf_slice (ks := [.int .i64, .int .i64, .int .i64, .slice 61]) h (by kernel_rfl)
  have key : ∀ r ∈ c, isUR r = true ∧ (nl r 3).all (fun e => okI (nr e 3)) = true := fun r hr => by
    obtain ⟨c0, r0, rfl, e0, q0⟩ := row_cons (h1 r hr)
    obtain ⟨c1, r1, rfl, e1, q1⟩ := row_cons q0
    obtain ⟨c2, r2, rfl, e2, q2⟩ := row_cons q1
    obtain ⟨c3, r3, rfl, e3, q3⟩ := row_cons q2
    obtain ⟨n0, rfl⟩ := kind_int e0
    obtain ⟨n1, rfl⟩ := kind_int e1
    obtain ⟨n2, rfl⟩ := kind_int e2
    obtain ⟨l, rfl⟩ := kind_slice e3
    obtain rfl := row_nil q3
    exact ⟨rfl, (okN_wf (h3 _ hr (.slice 61 l) (by simp))).1⟩
  unfold okArg
  rw [List.all_eq_true.2 fun r hr => (key r hr).1, List.all_eq_true.2 fun r hr => (key r hr).2, decide_eq_true (by unfold maxLen at h2; omega)]
  rfl

theorem en_wf {v : List (List Cell)} (h : Cell.Wf E (.slice 65 v)) : okArgV v = true := by
  obtain ⟨h1, h2, _⟩ := wf_slice (ks := [.int .i64, .int .i64]) h (by kernel_rfl)
  have : v.all isEn = true := List.all_eq_true.2 fun r hr => by
    obtain ⟨c0, r0, rfl, e0, q0⟩ := row_cons (h1 r hr)
    obtain ⟨c1, r1, rfl, e1, q1⟩ := row_cons q0
    obtain ⟨n0, rfl⟩ := kind_int e0
    obtain ⟨n1, rfl⟩ := kind_int e1
    obtain rfl := row_nil q1
    rfl
  unfold okArgV
  rw [this, decide_eq_true (by unfold maxLen at h2; omega)]
  rfl

end Go.Proofs.Ytkfniijfenkocaa
