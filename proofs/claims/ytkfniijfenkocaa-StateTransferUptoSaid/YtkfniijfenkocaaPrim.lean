/-
  The function that asks whether a text is empty by a range over it: walked by hand.
-/
import Derived.Test.YtkfniijfenkocaaTab
import Derived.Test.YtkfniijfenkocaaInsP
import Derived.Test.YtkfniijfenkocaaClP
import Derived.Test.YtkfniijfenkocaaA30
import Derived.WalkKit
import Derived.ProofKit
import Derived.Handy
import Derived.LoopN
import Derived.Laws.RangeString
namespace Go.Proofs.Ytkfniijfenkocaa
open Go.Abs

theorem next_some {P : Program} (w : World) (s : ByteArray) (pos : Nat) (ty : TypeId) (h : pos < s.size) :
    (Instr.next (.pointer (some ⟨w.heap.size, 0, none⟩)) true ty).run P (w.iter s pos) =
      .ok (.tuple #[.bool true, .int .i64 pos, .int .i32 (Utf8.decode s pos).1]) (w.iter s (pos + (Utf8.decode s pos).2)) := by
  simp only [Instr.next, getObj, setObj, Sem.run_bind, Sem.run, World.iter_heap, Result.andThen, h, if_true, World.iter_set]
  simp [goInt, Sem.run, World.iter_heap, World.iter_set]

theorem under9 : Try.prog.underlying 9 = some .string := by kernel_rfl

set_option maxRecDepth 100000 in
theorem walk87 (s : ByteArray) (w : World) : Calls Try.prog 87 #[.string s] w fun e w' => e = .returned (.bool (decide (s.size = 0))) ∧ ∃ pos, w' = w.iter s pos := by
  have hr := run_range_string (P := Try.prog) w 9 s under9
  by_cases h : 0 < s.size
  · have hn := next_some (P := Try.prog) w s 0 0 h
    go_enter Try.func87, Try.ntmps87
    go_wp2
    refine wp_loop_rounds 1 ?_
    rw [rounds_succ]
    go_wp2
    all_goals go_ret
    all_goals exact ⟨congrArg (fun b => Ending.returned (.bool b)) (decide_eq_false (by omega)).symm, _, rfl⟩
  · have hn := run_next_end (P := Try.prog) w s 0 0 h
    go_enter Try.func87, Try.ntmps87
    go_wp2
    refine wp_loop_rounds 1 ?_
    rw [rounds_succ]
    go_wp2
    all_goals go_ret
    all_goals exact ⟨congrArg (fun b => Ending.returned (.bool b)) (decide_eq_true (by omega)).symm, _, rfl⟩

theorem c87 : PrimOk Try.prog E 87 prim87 := by
  intro args blk vs bs h
  unfold prim87 at h
  split at h
  · rename_i s
    cases h
    refine ⟨⟨Try.f87, Try.func87, of_decide_eq_true (by kernel_rfl), by kernel_rfl⟩, fun R ρ own vals w hl ho hrel => ?_⟩
    obtain ⟨v, rfl⟩ : ∃ v, vals = [v] := by
      cases vals with
      | nil => cases hl
      | cons v r =>
        cases r with
        | nil => exact ⟨v, rfl⟩
        | cons _ _ => simp at hl
    have hv : v = .string ⟨s.toArray⟩ := by
      have := (hrel.fr 0).dis
      simp only [Abs.zipFr, Abs.get, nbeq_self, cond_true, AV.dis, AC.dis] at this
      cases this with
      | one _ _ _ hh _ =>
        have e : ([v].toArray.getD 0 undef) = v := by simp
        generalize [v].toArray.getD 0 undef = v' at hh e
        cases hh
        exact e.symm
    subst hv
    refine Calls.mono (walk87 ⟨s.toArray⟩ w) fun e w' he => ?_
    obtain ⟨rfl, pos, rfl⟩ := he
    have hp := hrel.put (dst := some 0) (dis := none) (v := .one (.bool s.isEmpty)) (val := .bool (decide ((⟨s.toArray⟩ : ByteArray).size = 0))) (oV := fun _ => none) (w' := w.iter ⟨s.toArray⟩ pos) (T := fun _ _ => False) (rd := [])
      (fun d hd => by cases hd; simp) (World.keptBut_alloc _ _ _) (fun B off h => h.elim) (fun p B t' h => by cases h) (fun p p' B t t' h => by cases h)
      (fun _ => by
        have e : s.isEmpty = decide ((⟨s.toArray⟩ : ByteArray).size = 0) := by
          cases s <;> simp [ByteArray.size]
        rw [e]
        exact .one _ _ _ (.bool _) (fun _ _ => rfl))
    exact ⟨[.bool (decide ((⟨s.toArray⟩ : ByteArray).size = 0))], ρ, _, rfl, rfl, fun _ _ h => h, hp.1, hp.2⟩
  · cases h

theorem c75 : PrimOk Try.prog E 75 (primIns 43) := cIns
theorem c52 : PrimOk Try.prog E 52 (primCln 43) := cCln
end Go.Proofs.Ytkfniijfenkocaa
