/-
  What the disk's methods keep.
-/
import Derived.Test.YtpafnokcmhlbgaaW4
namespace Go.Proofs.Ytpafnokcmhlbgaa
open Go.Abs

structure Kept (a b : Dk) (k : Nat) : Prop where
  ok : DkOk b
  len : b.dur.length = a.dur.length
  q : b.q.length ≤ a.q.length + k

theorem Kept.refl {d : Dk} (h : DkOk d) (k : Nat) : Kept d d k := ⟨h, rfl, by omega⟩
theorem Kept.half {a b : Dk} {k : Nat} (h : Kept a b k) : b.half = a.half := by unfold Dk.half; rw [h.len]
theorem Kept.trans {a b c : Dk} {k j : Nat} (h : Kept a b k) (i : Kept b c j) : Kept a c (k + j) := ⟨i.ok, by rw [i.len, h.len], by have := i.q; have := h.q; omega⟩

theorem wrF_kept : ∀ (k : Nat) (d : Dk) (o : Int) (x : List (List Cell)), DkOk d → 0 ≤ o → o + x.length ≤ d.cur.length → okB x = true → d.q.length + x.length ≤ 4000000 → Kept d (wrF k d o x).d x.length
  | 0, d, o, x, h, _, _, _, _ => Kept.refl h _
  | k + 1, d, o, x, h, h0, ho, hx, hq => by
    rw [wrF]
    by_cases hx0 : x.length = 0
    · rw [if_pos hx0]; exact Kept.refl h _
    rw [if_neg hx0]
    split
    · exact ⟨⟨h.cd, h.pos, h.le, h.sec, h.q, h.ql, h.left, h.bd, h.bc⟩, rfl, by show d.q.length ≤ _; omega⟩
    · rename_i hna
      obtain ⟨p1, p2, p3, p4⟩ := pcN_of (o := o) (n := x.length) h0 (by omega)
      generalize pcN o x.length = p at p1 p2 p3 p4
      have hol : (overL d.cur o.toNat (x.take p)).length = d.cur.length := overL_len (by rw [List.length_take]; omega)
      have hcd := h.cd
      have hl := h.left
      have h1 : DkOk ⟨d.dur, overL d.cur o.toNat (x.take p), d.q ++ [pcR o (x.take p)], d.arm, (if d.arm = true then d.left - 1 else d.left), d.down⟩ := by
        refine ⟨?_, h.pos, h.le, h.sec, ?_, ?_, ?_, h.bd, okB_over h.bc (okB_take hx _) _⟩
        · show (overL d.cur o.toNat (x.take p)).length = d.dur.length
          omega
        · intro r hr
          rcases List.mem_append.mp hr with hr | hr
          · exact h.q r hr
          · rw [List.mem_singleton.mp hr]
            refine okPc_mk h0 ?_ (okB_take hx _)
            show o + ((x.take p).length : Int) ≤ (d.dur.length : Int)
            rw [List.length_take]; omega
        · show (d.q ++ [pcR o (x.take p)]).length ≤ 4000000
          simp; omega
        · show 0 ≤ (if d.arm = true then d.left - 1 else d.left) ∧ (if d.arm = true then d.left - 1 else d.left) ≤ 9223372036854775807
          split <;> rename_i ha
          · have : d.left ≠ 0 := fun hc => hna ⟨ha, hc⟩
            omega
          · exact hl
      have ih := wrF_kept k _ (o + p) (x.drop p) h1 (by omega) (by show _ ≤ ((overL d.cur o.toNat (x.take p)).length : Int); rw [hol, List.length_drop]; omega) (okB_drop hx _) (by simp; omega)
      refine ⟨ih.ok, ih.len, ?_⟩
      have := ih.q
      simp at this
      omega

theorem write_kept {d : Dk} {o : Int} {x : List (List Cell)} (h : DkOk d) (hx : okB x = true) (hq : d.q.length + x.length ≤ 4000000) : Kept d (d.write o x).d x.length := by
  unfold Dk.write
  split
  · exact Kept.refl h _
  · rename_i hc
    have hc := chk_of (Classical.not_not.mp hc)
    exact wrF_kept _ d o x h hc.2.1 hc.2.2.2 hx hq

theorem sync_kept {d : Dk} (h : DkOk d) : Kept d d.sync.d 0 := by
  unfold Dk.sync
  split
  · exact Kept.refl h _
  · have hl := putQ_len (n := d.dur.length) h.q rfl
    refine ⟨⟨?_, ?_, ?_, ?_, ?_, ?_, h.left, putQ_okB h.q h.bd, h.bc⟩, hl, ?_⟩
    · show d.cur.length = (putQ d.dur d.q).length
      rw [hl]; exact h.cd
    · show 32 ≤ (putQ d.dur d.q).length
      rw [hl]; exact h.pos
    · show (putQ d.dur d.q).length ≤ 65536
      rw [hl]; exact h.le
    · show (putQ d.dur d.q).length % 32 = 0
      rw [hl]; exact h.sec
    · intro r hr; cases hr
    · show 0 ≤ 4000000; omega
    · show 0 ≤ _; omega
theorem store_kept {d : Dk} {o : Int} {x : List (List Cell)} (h : DkOk d) (hx : okB x = true) (hq : d.q.length + x.length ≤ 4000000) : Kept d (d.store o x).d x.length := by
  have h1 := write_kept (o := o) h hx hq
  unfold Dk.store
  split
  · exact h1.trans (sync_kept h1.ok)
  · exact h1
theorem crash_kept {d : Dk} (h : DkOk d) (k t : Int) : Kept d (d.crash k t) 0 := by
  have hl := crashB_len h k t
  have hb := crashB_okB h k t
  refine ⟨⟨rfl, ?_, ?_, ?_, ?_, ?_, ⟨by show (0 : Int) ≤ 0; omega, by show (0 : Int) ≤ _; omega⟩, hb, hb⟩, hl, ?_⟩
  · show 32 ≤ (crashB d k t).length
    rw [hl]; exact h.pos
  · show (crashB d k t).length ≤ 65536
    rw [hl]; exact h.le
  · show (crashB d k t).length % 32 = 0
    rw [hl]; exact h.sec
  · intro r hr; cases hr
  · show 0 ≤ 4000000; omega
  · show 0 ≤ _; omega
theorem fail_kept {d : Dk} (h : DkOk d) (k : Int) (hk : k ≤ 9223372036854775807) : Kept d (d.fail k) 0 := by
  unfold Dk.fail
  split
  · exact Kept.refl h _
  · refine ⟨⟨h.cd, h.pos, h.le, h.sec, h.q, h.ql, ?_, h.bd, h.bc⟩, rfl, Nat.le_refl _⟩
    show 0 ≤ (if k < 0 then 0 else k) ∧ (if k < 0 then 0 else k) ≤ 9223372036854775807
    split <;> omega
theorem new_ok (n : Int) : DkOk (newDk n) := by
  obtain ⟨h1, h2, h3, h4⟩ := secN_of n
  have e : (newDk n).dur.length = secN n := List.length_replicate ..
  refine ⟨rfl, by rw [e]; exact h2, by rw [e]; exact h3, by rw [e]; exact h4, ?_, ?_, ⟨by show (0 : Int) ≤ 0; omega, by show (0 : Int) ≤ _; omega⟩, okB_rep _, okB_rep _⟩
  · intro r hr; cases hr
  · show 0 ≤ 4000000; omega

/- HALVES -/

theorem half_of {d : Dk} (h : DkOk d) : 0 ≤ d.half ∧ d.half + d.half ≤ d.dur.length ∧ d.half ≤ 32768 ∧ (128 ≤ d.dur.length → 64 ≤ d.half) := by
  have h1 := h.le
  have h2 := h.sec
  unfold Dk.half
  refine ⟨by omega, by omega, by omega, fun _ => by omega⟩
theorem seg_of {s : Int} (h : okSeg s = true) : s = 0 ∨ s = 1 := by
  unfold okSeg at h
  simp only [Bool.and_eq_true] at h
  have h1 := pd_of h.1
  have h2 := pd_of h.2
  omega
theorem seg_mk {s : Int} (h : s = 0 ∨ s = 1) : okSeg s = true := and_mk (pd_t (by omega)) (pd_t (by omega))

end Go.Proofs.Ytpafnokcmhlbgaa
