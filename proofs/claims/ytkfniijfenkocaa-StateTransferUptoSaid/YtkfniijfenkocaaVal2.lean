/-
  The contracts, one on top of the other.
-/
import Derived.Test.YtkfniijfenkocaaVal
import Derived.Test.YtkfniijfenkocaaStE
namespace Go.Proofs.Ytkfniijfenkocaa
open Go.Abs

theorem v5 : ∀ args blk r, s5 args blk = (true, r) → ∃ n, runF E (callOf L10) n 5 args blk = some r ∨ run E n 5 args blk = (true, r) := by
  intro args blk r h
  unfold s5 at h
  split at h
  · obtain ⟨g, rfl⟩ := guarded h
    exact ⟨1, .inl (law5 _ _ _ _ (of_decide_eq_true g))⟩
  · cases h

theorem v8 : ∀ args blk r, s8 args blk = (true, r) → ∃ n, runF E (callOf L5) n 8 args blk = some r ∨ run E n 8 args blk = (true, r) := by
  intro args blk r h
  unfold s8 at h
  split at h
  · obtain ⟨g, rfl⟩ := guarded h
    obtain ⟨n, hn⟩ := law8 _ _ _ _ (of_decide_eq_true g)
    exact ⟨n, .inl hn⟩
  · cases h

theorem valid5 : Valid E L5 := ⟨v5, valid10⟩
theorem valid8 : Valid E L8 := ⟨v8, valid5⟩

end Go.Proofs.Ytkfniijfenkocaa
