/-
  Lists without gaps, their vectors, and the lattice of vectors. In plain Lean.
-/
import Derived.Test.YtkfniijfenkocaaKeyed
namespace Go.Proofs.Ytkfniijfenkocaa
open Go.Abs

def Gap (c : Rs) : Prop := ∀ r ∈ c, 1 < nr r 1 → ∃ q ∈ c, nr q 0 = nr r 0 ∧ nr q 1 = nr r 1 - 1
def Nums (c : Rs) : Prop := ∀ r ∈ c, 1 ≤ nr r 0 ∧ 1 ≤ nr r 1 ∧ nr r 1 ≤ 1000000

structure Vld (c : Rs) : Prop where
  asc : Asc c
  gap : Gap c
  nums : Nums c

/-- the part of those whose number is at most a bound of their author -/
def sub (c : Rs) (f : Int → Int) : Rs := c.filter fun r => decide (nr r 1 ≤ f (nr r 0))

theorem restr_sub (c v : Rs) : restr c v = sub c (cntV v) := rfl

theorem mem_sub {c : Rs} {f : Int → Int} {r : List Cell} : r ∈ sub c f ↔ r ∈ c ∧ nr r 1 ≤ f (nr r 0) := by
  simp [sub, List.mem_filter]

theorem Vld.sub {c : Rs} (h : Vld c) (f : Int → Int) : Vld (sub c f) := by
  refine ⟨asc_filter h.asc _, fun r hr h1 => ?_, fun r hr => h.nums r (mem_sub.1 hr).1⟩
  obtain ⟨hr1, hr2⟩ := mem_sub.1 hr
  obtain ⟨q, hq, e0, e1⟩ := h.gap r hr1 h1
  exact ⟨q, mem_sub.2 ⟨hq, by rw [e0, e1]; omega⟩, e0, e1⟩

theorem sub_len (c : Rs) (f : Int → Int) : (sub c f).length ≤ c.length := List.length_filter_le _ _

theorem uni_sub {P : Rs} (h : Vld P) (f g : Int → Int) : uniK (sub P f) (sub P g) = sub P fun a => max (f a) (g a) := by
  unfold Go.Proofs.Ytkfniijfenkocaa.sub
  rw [uniK_filter h.asc]
  refine filter_congr' fun x _ => ?_
  rw [Bool.eq_iff_iff, Bool.or_eq_true, decide_eq_true_eq, decide_eq_true_eq, decide_eq_true_eq]
  dsimp only
  omega

theorem meet_sub {P : Rs} (h : Vld P) (f g : Int → Int) : meetK (sub P f) (sub P g) = sub P fun a => min (f a) (g a) := by
  unfold Go.Proofs.Ytkfniijfenkocaa.sub
  rw [meetK_filter h.asc]
  refine filter_congr' fun x _ => ?_
  rw [Bool.eq_iff_iff, Bool.and_eq_true, decide_eq_true_eq, decide_eq_true_eq, decide_eq_true_eq]
  dsimp only
  omega

theorem sub_congr {P : Rs} {f g : Int → Int} (h : ∀ x ∈ P, nr x 1 ≤ f (nr x 0) ↔ nr x 1 ≤ g (nr x 0)) : sub P f = sub P g := by
  unfold Go.Proofs.Ytkfniijfenkocaa.sub
  refine filter_congr' fun x hx => ?_
  rw [Bool.eq_iff_iff, decide_eq_true_eq, decide_eq_true_eq]
  exact h x hx

theorem sub_sub (P : Rs) (f g : Int → Int) : sub (sub P f) g = sub P fun a => min (f a) (g a) := by
  unfold Go.Proofs.Ytkfniijfenkocaa.sub
  rw [List.filter_filter]
  refine filter_congr' fun x _ => ?_
  rw [Bool.eq_iff_iff, Bool.and_eq_true, decide_eq_true_eq, decide_eq_true_eq, decide_eq_true_eq]
  dsimp only
  omega

theorem cont_sub {P : Rs} (h : Vld P) (f g : Int → Int) : contK (sub P f) (sub P g) = true ↔ ∀ x ∈ P, nr x 1 ≤ g (nr x 0) → nr x 1 ≤ f (nr x 0) := by
  unfold Go.Proofs.Ytkfniijfenkocaa.sub
  rw [contK_filter h.asc]
  constructor
  · intro h x hx hg
    exact of_decide_eq_true (h x hx (decide_eq_true hg))
  · intro h x hx hg
    exact decide_eq_true (h x hx (of_decide_eq_true hg))

/-- an equal length, then the same -/
theorem sub_len_eq {P : Rs} {f g : Int → Int} (h : ∀ x ∈ P, nr x 1 ≤ f (nr x 0) → nr x 1 ≤ g (nr x 0)) (hl : (sub P g).length = (sub P f).length) : ∀ x ∈ P, nr x 1 ≤ g (nr x 0) → nr x 1 ≤ f (nr x 0) := by
  intro x hx hg
  have := filter_len (P := P) (f := fun r => decide (nr r 1 ≤ f (nr r 0))) (g := fun r => decide (nr r 1 ≤ g (nr r 0))) (fun y hy hf => decide_eq_true (h y hy (of_decide_eq_true hf))) hl x hx (decide_eq_true hg)
  exact of_decide_eq_true this

/- THE VECTOR OF A LIST -/

theorem cntV_app : ∀ (u w : Rs) (b : Int), cntV (u ++ w) b = if hasV u b = true then cntV u b else cntV w b
  | [], _, _ => rfl
  | e :: u, w, b => by
    rw [List.cons_append, cntV, cntV, cntV_app u w b]
    show _ = if (decide (nr e 0 = b) || hasV u b) = true then _ else _
    by_cases h : nr e 0 = b
    · simp [h]
    · simp [h]

theorem hasV_asc_app {u : Rs} {e : List Cell} (h : AscV (u ++ [e])) {b : Int} (hb : nr e 0 ≤ b) : hasV u b = false := by
  refine Bool.eq_false_iff.2 fun hh => ?_
  obtain ⟨q, hq, he⟩ := hasV_iff.1 hh
  have := (List.pairwise_append.1 h).2.2 q hq e (List.mem_singleton.2 rfl)
  omega

theorem cntV_one (e : List Cell) (b : Int) : cntV [e] b = if nr e 0 = b then nr e 1 else 0 := rfl
theorem ent0 (a k : Int) : nr (ent a k) 0 = a := rfl
theorem ent1 (a k : Int) : nr (ent a k) 1 = k := rfl

theorem vstep_cntV {v : Rs} {a : Int} (h : AscV v) (hm : AtMost v a) (b : Int) : cntV (vstep v a) b = if b = a then cntV v a + 1 else cntV v b := by
  unfold vstep
  split
  · rename_i hh
    have e := take_last hh.1
    have h2 : AscV (v.take (v.length - 1) ++ [Abs.rowAt v (v.length - 1)]) := by rw [← e]; exact h
    have hv : ∀ b, cntV v b = if hasV (v.take (v.length - 1)) b = true then cntV (v.take (v.length - 1)) b else cntV [Abs.rowAt v (v.length - 1)] b := fun b => by
      conv => lhs; rw [e]
      exact cntV_app _ _ _
    have ha := hasV_asc_app h2 (Int.le_of_eq hh.2)
    rw [cntV_app, hv a, hv b]
    by_cases hb : b = a
    · subst hb
      rw [if_pos rfl, ha]
      simp only [Bool.false_eq_true, if_false]
      rw [cntV_one, cntV_one, ent0, ent1, if_pos rfl, if_pos hh.2]
    · rw [if_neg hb]
      split
      · rfl
      · have hb1 : ¬ a = b := fun h => hb h.symm
        have hb2 : ¬ nr (Abs.rowAt v (v.length - 1)) 0 = b := fun h => hb (by rw [← h, hh.2])
        rw [cntV_one, cntV_one, ent0, if_neg hb1, if_neg hb2]
  · rename_i hh
    rw [cntV_app]
    have hna : hasV v a = false := by
      refine Bool.eq_false_iff.2 fun h1 => ?_
      obtain ⟨q, hq, he⟩ := hasV_iff.1 h1
      have hpos : 0 < v.length := List.length_pos_of_mem hq
      refine hh ⟨hpos, ?_⟩
      have h2 := hm _ (last_mem hpos)
      have e := take_last hpos
      rw [e] at hq
      rcases List.mem_append.1 hq with hq | hq
      · have h3 : AscV (v.take (v.length - 1) ++ [Abs.rowAt v (v.length - 1)]) := by rw [← e]; exact h
        have := (List.pairwise_append.1 h3).2.2 q hq _ (List.mem_singleton.2 rfl)
        omega
      · rw [List.mem_singleton] at hq
        rw [← hq]
        exact he
    by_cases hb : b = a
    · subst hb
      rw [if_pos rfl, hna, cntV_not hna]
      simp only [Bool.false_eq_true, if_false]
      rw [cntV_one, ent0, ent1, if_pos rfl]
      rfl
    · rw [if_neg hb]
      have hb1 : ¬ a = b := fun h => hb h.symm
      by_cases h1 : hasV v b = true
      · rw [if_pos h1]
      · have h1' : hasV v b = false := by simpa using h1
        rw [if_neg h1, cntV_one, ent0, if_neg hb1, cntV_not h1']

def EntOk (v : Rs) : Prop := ∀ e ∈ v, isEn e = true ∧ 1 ≤ nr e 0 ∧ 1 ≤ nr e 1 ∧ nr e 1 ≤ 1000000

/-- what a vector says of a list -/
structure IsVec (v c : Rs) : Prop where
  asc : AscV v
  ents : EntOk v
  has : ∀ r : List Cell, hasK c r = true ↔ 1 ≤ nr r 1 ∧ nr r 1 ≤ cntV v (nr r 0)

structure VInv (pre v : Rs) : Prop where
  asc : AscV v
  ents : EntOk v
  lo : ∀ r ∈ pre, nr r 1 ≤ cntV v (nr r 0)
  hi : ∀ a, cntV v a ≠ 0 → ∃ r ∈ pre, nr r 0 = a ∧ nr r 1 = cntV v a
  most : ∀ e ∈ v, ∃ r ∈ pre, nr r 0 = nr e 0

theorem isEn_ent (a k : Int) : isEn (ent a k) = true := rfl

theorem vstep_mem {v : Rs} {a : Int} (h : AscV v) (hm : AtMost v a) {e : List Cell} (he : e ∈ vstep v a) : e ∈ v ∨ e = ent a (cntV v a + 1) := by
  have hc := vstep_cntV h hm a
  rw [if_pos rfl] at hc
  have h1 := vstep_asc h hm
  unfold vstep at he hc
  split at he
  · rename_i hh
    rw [if_pos hh] at hc
    rcases List.mem_append.1 he with he | he
    · exact .inl (List.mem_of_mem_take he)
    · rw [List.mem_singleton] at he
      right
      have e2 := take_last hh.1
      have h2 : AscV (v.take (v.length - 1) ++ [Abs.rowAt v (v.length - 1)]) := by rw [← e2]; exact h
      have ha := hasV_asc_app h2 (Int.le_of_eq hh.2)
      rw [cntV_app, ha] at hc
      simp only [Bool.false_eq_true, if_false] at hc
      rw [cntV, if_pos (show nr (ent a (nr (Abs.rowAt v (v.length - 1)) 1 + 1)) 0 = a from rfl)] at hc
      have hc : nr (Abs.rowAt v (v.length - 1)) 1 + 1 = cntV v a + 1 := hc
      rw [he, hc]
  · rename_i hh
    rw [if_neg hh] at hc
    rcases List.mem_append.1 he with he | he
    · exact .inl he
    · rw [List.mem_singleton] at he
      right
      rw [cntV_app] at hc
      by_cases hv : hasV v a = true
      · rw [if_pos hv] at hc
        omega
      · rw [if_neg hv] at hc
        rw [cntV, if_pos (show nr (ent a 1) 0 = a from rfl)] at hc
        have hc : (1 : Int) = cntV v a + 1 := hc
        rw [he, ← hc]

theorem vecF_run : ∀ (l pre v : Rs), Vld (pre ++ l) → VInv pre v → VInv (pre ++ l) (vecF v l)
  | [], pre, v, _, h => by rw [List.append_nil]; exact h
  | r :: l, pre, v, hV, h => by
    have hsplit := List.pairwise_append.1 hV.asc
    have hr : r ∈ pre ++ r :: l := List.mem_append.2 (.inr List.mem_cons_self)
    have hpre : ∀ q ∈ pre, kLt q r = true := fun q hq => hsplit.2.2 q hq r List.mem_cons_self
    have hm : AtMost v (nr r 0) := fun e he => by
      obtain ⟨q, hq, e0⟩ := h.most e he
      have := kLt_iff.1 (hpre q hq)
      omega
    have hn := hV.nums r hr
    -- the count
    have hcnt : cntV v (nr r 0) + 1 = nr r 1 := by
      have hlt : cntV v (nr r 0) ≠ 0 → cntV v (nr r 0) < nr r 1 := fun h0 => by
        obtain ⟨q, hq, e0, e1⟩ := h.hi _ h0
        have := kLt_iff.1 (hpre q hq)
        omega
      have hnn : 0 ≤ cntV v (nr r 0) := by
        by_cases h0 : cntV v (nr r 0) = 0
        · omega
        · obtain ⟨q, hq, e0, e1⟩ := h.hi _ h0
          have := (hV.nums q (List.mem_append.2 (.inl hq))).2.1
          omega
      by_cases h1 : 1 < nr r 1
      · obtain ⟨q, hq, e0, e1⟩ := hV.gap r hr h1
        have hq' : q ∈ pre := by
          rcases List.mem_append.1 hq with hq | hq
          · exact hq
          · rcases List.mem_cons.1 hq with rfl | hq
            · omega
            · have := kLt_iff.1 ((asc_cons.1 hsplit.2.1).1 q hq)
              omega
        have := h.lo q hq'
        rw [e0] at this
        by_cases h0 : cntV v (nr r 0) = 0
        · have := (hV.nums q hq).2.1
          omega
        · have := hlt h0
          omega
      · by_cases h0 : cntV v (nr r 0) = 0
        · omega
        · have := hlt h0
          have : 1 ≤ cntV v (nr r 0) := by omega
          omega
    have h1 := vstep_asc h.asc hm
    have hc := vstep_cntV h.asc hm
    have := vecF_run l (pre ++ [r]) (vstep v (nr r 0)) (by rw [List.append_assoc]; exact hV) ⟨h1.1, fun e he => ?_, fun q hq => ?_, fun a ha => ?_, fun e he => ?_⟩
    · rw [List.append_assoc] at this
      exact this
    · rcases vstep_mem h.asc hm he with he | rfl
      · exact h.ents e he
      · refine ⟨rfl, hn.1, ?_, ?_⟩
        · show 1 ≤ cntV v (nr r 0) + 1
          omega
        · show cntV v (nr r 0) + 1 ≤ 1000000
          omega
    · rw [hc]
      rcases List.mem_append.1 hq with hq | hq
      · have h2 := h.lo q hq
        split
        · rename_i e0
          rw [e0] at h2
          omega
        · exact h2
      · rw [List.mem_singleton] at hq
        subst hq
        rw [if_pos rfl]
        omega
    · rw [hc] at ha
      by_cases hb : a = nr r 0
      · subst hb
        exact ⟨r, List.mem_append.2 (.inr (List.mem_singleton.2 rfl)), rfl, by rw [hc, if_pos rfl]; omega⟩
      · rw [if_neg hb] at ha
        obtain ⟨q, hq, e0, e1⟩ := h.hi a ha
        exact ⟨q, List.mem_append.2 (.inl hq), e0, by rw [hc, if_neg hb]; exact e1⟩
    · rcases vstep_mem h.asc hm he with he | rfl
      · obtain ⟨q, hq, e0⟩ := h.most e he
        exact ⟨q, List.mem_append.2 (.inl hq), e0⟩
      · exact ⟨r, List.mem_append.2 (.inr (List.mem_singleton.2 rfl)), rfl⟩

theorem vinv_nil : VInv [] [] := ⟨by simp [AscV], fun e he => (by cases he), fun r hr => (by cases hr), fun a ha => absurd rfl ha, fun e he => (by cases he)⟩

theorem gap_down {c : Rs} (hg : Gap c) {r : List Cell} (hr : r ∈ c) : ∀ (d : Nat) (n : Int), 1 ≤ n → n + d = nr r 1 → ∃ q ∈ c, nr q 0 = nr r 0 ∧ nr q 1 = n
  | 0, n, _, h => ⟨r, hr, rfl, by omega⟩
  | d + 1, n, h1, h => by
    obtain ⟨q, hq, e0, e1⟩ := gap_down hg hr d (n + 1) (by omega) (by omega)
    obtain ⟨p, hp, f0, f1⟩ := hg q hq (by omega)
    exact ⟨p, hp, by rw [f0, e0], by omega⟩

theorem vecK_is {c : Rs} (h : Vld c) : IsVec (vecK c) c := by
  have hI := vecF_run c [] [] h vinv_nil
  refine ⟨hI.asc, hI.ents, fun r => ⟨fun hr => ?_, fun hr => ?_⟩⟩
  · obtain ⟨q, hq, e0, e1⟩ := hasK_iff.1 hr
    have h1 := hI.lo q hq
    have h2 := (h.nums q hq).2.1
    rw [← e0, ← e1]
    exact ⟨h2, h1⟩
  · obtain ⟨q, hq, e0, e1⟩ := hI.hi (nr r 0) (fun h0 => by
      have : cntV (vecK c) (nr r 0) = 0 := h0
      omega)
    have e1 : nr q 1 = cntV (vecK c) (nr r 0) := e1
    obtain ⟨p, hp, f0, f1⟩ := gap_down h.gap hq (nr q 1 - nr r 1).toNat (nr r 1) hr.1 (by omega)
    exact hasK_iff.2 ⟨p, hp, by rw [f0, e0], f1⟩

theorem cntV_pos {v : Rs} (h : EntOk v) (a : Int) : 0 ≤ cntV v a := by
  induction v with
  | nil => exact Int.le_refl _
  | cons e v ih =>
    unfold cntV
    split
    · have := (h e List.mem_cons_self).2.2.1; omega
    · exact ih fun x hx => h x (List.mem_cons_of_mem _ hx)

theorem cntV_mem {v : Rs} (h : AscV v) {e : List Cell} (he : e ∈ v) : cntV v (nr e 0) = nr e 1 := by
  obtain ⟨j, hj, rfl⟩ := List.getElem_of_mem he
  have := cntV_at (c := v) (a := nr v[j] 0) hj (by rw [rowAt_eq hj]) (fun i hi => by
    have := List.pairwise_iff_getElem.1 h i j (by omega) hj hi
    rw [rowAt_eq (by omega)]
    omega)
  rw [this, rowAt_eq hj]

theorem mem_of_cntV {v : Rs} (hE : EntOk v) {a : Int} (h : cntV v a ≠ 0) : ent a (cntV v a) ∈ v := by
  induction v with
  | nil => exact absurd rfl h
  | cons e v ih =>
    rw [cntV] at h ⊢
    by_cases he : nr e 0 = a
    · rw [if_pos he] at h ⊢
      have := isEn_eq' (hE e List.mem_cons_self).1
      rw [he] at this
      rw [← this]
      exact List.mem_cons_self
    · rw [if_neg he] at h ⊢
      exact List.mem_cons_of_mem _ (ih (fun x hx => hE x (List.mem_cons_of_mem _ hx)) h)
where
  isEn_eq' {r : List Cell} (h : isEn r = true) : r = ent (nr r 0) (nr r 1) := by
    unfold isEn at h
    split at h
    · rfl
    · cases h

/-- vectors with the same counts are equal -/
theorem vec_ext {v w : Rs} (hv : AscV v) (hw : AscV w) (ev : EntOk v) (ew : EntOk w) (h : ∀ a, cntV v a = cntV w a) : v = w := by
  have key : ∀ {v w : Rs}, AscV v → EntOk v → EntOk w → (∀ a, cntV v a = cntV w a) → ∀ x ∈ v, x ∈ w := fun {v w} hv ev ew h x hx => by
    have e1 := cntV_mem hv hx
    have e2 := mem_of_cntV.isEn_eq' (ev x hx).1
    have h0 := (ev x hx).2.2.1
    have := mem_of_cntV ew (a := nr x 0) (by rw [← h, e1]; omega)
    rw [← h, e1, ← e2] at this
    exact this
  have ext : ∀ {a b : Rs}, AscV a → AscV b → (∀ x, x ∈ a ↔ x ∈ b) → a = b := by
    intro a
    induction a with
    | nil =>
      intro b _ _ h
      cases b with
      | nil => rfl
      | cons q b => have := (h q).2 List.mem_cons_self; cases this
    | cons r a ih =>
      intro b ha hb h
      cases b with
      | nil => have := (h r).1 List.mem_cons_self; cases this
      | cons q b =>
        have ha' := List.pairwise_cons.1 ha
        have hb' := List.pairwise_cons.1 hb
        have hrq : r = q := by
          rcases List.mem_cons.1 ((h r).1 List.mem_cons_self) with e | h1
          · exact e
          · rcases List.mem_cons.1 ((h q).2 List.mem_cons_self) with e | h2
            · exact e.symm
            · have := hb'.1 r h1
              have := ha'.1 q h2
              omega
        subst hrq
        rw [ih ha'.2 hb'.2 fun x => ?_]
        constructor
        · intro hx
          rcases List.mem_cons.1 ((h x).1 (List.mem_cons_of_mem _ hx)) with rfl | h1
          · have := ha'.1 x hx; omega
          · exact h1
        · intro hx
          rcases List.mem_cons.1 ((h x).2 (List.mem_cons_of_mem _ hx)) with rfl | h1
          · have := hb'.1 x hx; omega
          · exact h1
  exact ext hv hw fun x => ⟨key hv ev ew h x, key hw ew ev (fun a => (h a).symm) x⟩

/- THE REFERENCE'S VECTORS -/

theorem withF_low {a k : Int} : ∀ {v : Rs} (p : Bool), (∀ e ∈ v, nr e 0 < a) → withF a k p v = if p = true then v else v ++ [ent a k]
  | [], p, _ => by cases p <;> rfl
  | e :: v, p, h => by
    have h1 := h e List.mem_cons_self
    rw [withF, if_neg (fun hh => by omega), if_neg (by omega), withF_low p fun x hx => h x (List.mem_cons_of_mem _ hx)]
    cases p <;> rfl

theorem withF_app {a k : Int} : ∀ {u : Rs} (w : Rs) (p : Bool), (∀ e ∈ u, nr e 0 < a) → withF a k p (u ++ w) = u ++ withF a k p w
  | [], _, _, _ => rfl
  | e :: u, w, p, h => by
    have h1 := h e List.mem_cons_self
    rw [List.cons_append, withF, if_neg (fun hh => by omega), if_neg (by omega), withF_app w p fun x hx => h x (List.mem_cons_of_mem _ hx)]
    rfl

theorem withF_high {a k : Int} : ∀ {v : Rs}, (∀ e ∈ v, a < nr e 0) → withF a k true v = v
  | [], _ => rfl
  | e :: v, h => by
    have h1 := h e List.mem_cons_self
    rw [withF, if_neg (fun hh => by cases hh.1), if_neg (by omega), withF_high fun x hx => h x (List.mem_cons_of_mem _ hx)]

theorem withV_step {v : Rs} {a : Int} (h : AscV v) (hm : AtMost v a) (ha : 1 ≤ a) (h0 : 0 ≤ cntV v a) (h1 : cntV v a < 1000000) : withV v a (cntV v a + 1) = vstep v a := by
  unfold withV
  rw [if_neg (by omega), decide_eq_false (by omega)]
  unfold vstep
  split
  · rename_i hh
    have e := take_last hh.1
    have h2 : AscV (v.take (v.length - 1) ++ [Abs.rowAt v (v.length - 1)]) := by rw [← e]; exact h
    have hlow : ∀ x ∈ v.take (v.length - 1), nr x 0 < a := fun x hx => by
      have := (List.pairwise_append.1 h2).2.2 x hx _ (List.mem_singleton.2 rfl)
      omega
    have hc : cntV v a = nr (Abs.rowAt v (v.length - 1)) 1 := by
      have := cntV_mem h (last_mem hh.1)
      rw [hh.2] at this
      exact this
    rw [hc]
    refine Eq.trans (congrArg (withF a _ false) e) ?_
    rw [withF_app _ _ hlow, withF, if_pos ⟨rfl, by omega⟩, if_pos hh.2]
    rfl
  · rename_i hh
    have hlow : ∀ x ∈ v, nr x 0 < a := fun x hx => by
      have h2 := hm x hx
      by_cases he : nr x 0 = a
      · exfalso
        have hpos : 0 < v.length := List.length_pos_of_mem hx
        refine hh ⟨hpos, ?_⟩
        have h2 := hm _ (last_mem hpos)
        have e := take_last hpos
        rw [e] at hx
        rcases List.mem_append.1 hx with hx | hx
        · have h3 : AscV (v.take (v.length - 1) ++ [Abs.rowAt v (v.length - 1)]) := by rw [← e]; exact h
          have := (List.pairwise_append.1 h3).2.2 x hx _ (List.mem_singleton.2 rfl)
          omega
        · rw [List.mem_singleton] at hx
          rw [← hx]
          exact he
      · omega
    have hc : cntV v a = 0 := cntV_not (Bool.eq_false_iff.2 fun hv => by
      obtain ⟨q, hq, e0⟩ := hasV_iff.1 hv
      have := hlow q hq
      omega)
    rw [hc, withF_low false hlow]
    rfl

theorem vecRF_eq : ∀ (l pre v : Rs), Vld (pre ++ l) → (pre ++ l).length ≤ 1000 → VInv pre v → (∀ a, cntV v a ≤ pre.length) → vecRF v l = vecF v l
  | [], _, _, _, _, _, _ => rfl
  | r :: l, pre, v, hV, hl, h, hb => by
    have hsplit := List.pairwise_append.1 hV.asc
    have hr : r ∈ pre ++ r :: l := List.mem_append.2 (.inr List.mem_cons_self)
    have hm : AtMost v (nr r 0) := fun e he => by
      obtain ⟨q, hq, e0⟩ := h.most e he
      have := kLt_iff.1 (hsplit.2.2 q hq r List.mem_cons_self)
      omega
    have h1 : vecF v [r] = vstep v (nr r 0) := rfl
    have hI := vecF_run [r] pre v ⟨List.Pairwise.sublist (by simp) hV.asc, fun q hq h1 => ?_, fun q hq => hV.nums q (by simp at hq ⊢; rcases hq with hq | hq <;> simp [hq])⟩ h
    · simp only [List.length_append, List.length_cons] at hl
      have e1 : withV v (nr r 0) (cntV v (nr r 0) + 1) = vstep v (nr r 0) := withV_step h.asc hm (hV.nums r hr).1 (cntV_pos h.ents _) (by have := hb (nr r 0); omega)
      show vecRF (withV v (nr r 0) (cntV v (nr r 0) + 1)) l = vecF (vstep v (nr r 0)) l
      rw [e1]
      rw [h1] at hI
      refine vecRF_eq l (pre ++ [r]) _ (by rw [List.append_assoc]; exact hV) (by simp; omega) hI fun a => ?_
      rw [vstep_cntV h.asc hm]
      have := hb a
      have := hb (nr r 0)
      simp only [List.length_append, List.length_cons, List.length_nil]
      split <;> omega
    · have hq' : q ∈ pre ++ r :: l := by simp at hq ⊢; rcases hq with hq | hq <;> simp [hq]
      obtain ⟨p, hp, e0, e1⟩ := hV.gap q hq' h1
      refine ⟨p, ?_, e0, e1⟩
      rcases List.mem_append.1 hp with hp | hp
      · exact List.mem_append.2 (.inl hp)
      · rcases List.mem_cons.1 hp with rfl | hp
        · exact List.mem_append.2 (.inr (List.mem_singleton.2 rfl))
        · exfalso
          have h3 := kLt_iff.1 ((asc_cons.1 hsplit.2.1).1 p hp)
          rcases List.mem_append.1 hq with hq | hq
          · have h4 := kLt_iff.1 (hsplit.2.2 q hq p (List.mem_cons_of_mem _ hp))
            omega
          · rw [List.mem_singleton] at hq
            subst hq
            omega

theorem vecR_eq {c : Rs} (h : Vld c) (hl : c.length ≤ 1000) : vecR c = vecK c :=
  vecRF_eq c [] [] h hl vinv_nil fun a => by simp [cntV]

theorem eqVF_refl : ∀ v : Rs, eqVF v v = true
  | [] => rfl
  | e :: v => by
    rw [eqVF]
    have : eqVF v ((e :: v).drop 1) = true := eqVF_refl v
    rw [this]
    simp [Abs.rowAt]

theorem eqVec_refl (v : Rs) : eqVec v v = true := by simp [eqVec, eqVF_refl]

/- THE LATTICE OF VECTORS -/

theorem withF_asc {a k : Int} {v : Rs} (h : AscV v) : AscV (withF a k false v) ∧ (∀ b, cntV (withF a k false v) b = if b = a then k else cntV v b) ∧ (∀ e ∈ withF a k false v, e ∈ v ∨ e = ent a k) := by
  induction v with
  | nil =>
    refine ⟨by simp [withF, AscV], fun b => ?_, fun e he => .inr (by simpa [withF] using he)⟩
    simp only [withF, Bool.false_eq_true, if_false, cntV]
    by_cases hb : b = a
    · subst hb; rw [if_pos rfl, if_pos (show nr (ent b k) 0 = b from rfl)]; rfl
    · rw [if_neg hb, if_neg (show ¬ nr (ent a k) 0 = b from fun h => hb h.symm)]
  | cons e v ih =>
    have h' := List.pairwise_cons.1 h
    have ih := ih h'.2
    by_cases hge : a ≤ nr e 0
    · by_cases he : nr e 0 = a
      · rw [withF, if_pos ⟨rfl, hge⟩, if_pos he, withF_high (fun x hx => by have := h'.1 x hx; omega)]
        refine ⟨List.pairwise_cons.2 ⟨fun x hx => ?_, h'.2⟩, fun b => ?_, fun x hx => ?_⟩
        · have := h'.1 x hx
          show a < nr x 0
          omega
        · rw [cntV, cntV]
          by_cases hb : b = a
          · subst hb; rw [if_pos rfl, if_pos (show nr (ent b k) 0 = b from rfl)]; rfl
          · rw [if_neg hb, if_neg (show ¬ nr (ent a k) 0 = b from fun h => hb h.symm), if_neg (by omega)]
        · rcases List.mem_cons.1 hx with rfl | hx
          · exact .inr rfl
          · exact .inl (List.mem_cons_of_mem _ hx)
      · rw [withF, if_pos ⟨rfl, hge⟩, if_neg he, withF_high (fun x hx => by have := h'.1 x hx; omega)]
        refine ⟨List.pairwise_cons.2 ⟨fun x hx => ?_, h⟩, fun b => ?_, fun x hx => ?_⟩
        · show a < nr x 0
          rcases List.mem_cons.1 hx with rfl | hx
          · omega
          · have := h'.1 x hx; omega
        · rw [cntV]
          by_cases hb : b = a
          · subst hb; rw [if_pos rfl, if_pos (show nr (ent b k) 0 = b from rfl)]; rfl
          · rw [if_neg hb, if_neg (show ¬ nr (ent a k) 0 = b from fun h => hb h.symm)]
        · rcases List.mem_cons.1 hx with rfl | hx
          · exact .inr rfl
          · exact .inl hx
    · rw [withF, if_neg (fun hh => hge hh.2), if_neg (by omega)]
      refine ⟨List.pairwise_cons.2 ⟨fun x hx => ?_, ih.1⟩, fun b => ?_, fun x hx => ?_⟩
      · rcases ih.2.2 x hx with hx | rfl
        · exact h'.1 x hx
        · show nr e 0 < a
          omega
      · rw [cntV, cntV, ih.2.1]
        by_cases hb : b = a
        · subst hb; rw [if_pos rfl, if_neg (by omega), if_pos rfl]
        · rw [if_neg hb, if_neg hb]
      · rcases List.mem_cons.1 hx with rfl | hx
        · exact .inl List.mem_cons_self
        · rcases ih.2.2 x hx with hx | hx
          · exact .inl (List.mem_cons_of_mem _ hx)
          · exact .inr hx

theorem joinF_is : ∀ {w out : Rs}, AscV out → EntOk out → AscV w → EntOk w → AscV (joinF out w) ∧ EntOk (joinF out w) ∧ ∀ a, cntV (joinF out w) a = max (cntV out a) (cntV w a)
  | [], out, ho, eo, _, _ => ⟨ho, eo, fun a => by
    have := cntV_pos eo a
    show cntV out a = max (cntV out a) 0
    omega⟩
  | e :: w, out, ho, eo, hw, ew => by
    have hw' := List.pairwise_cons.1 hw
    have ew' : EntOk w := fun x hx => ew x (List.mem_cons_of_mem _ hx)
    have he := ew e List.mem_cons_self
    have hne : cntV w (nr e 0) = 0 := cntV_not (Bool.eq_false_iff.2 fun hv => by
      obtain ⟨q, hq, e0⟩ := hasV_iff.1 hv
      have := hw'.1 q hq
      omega)
    have hstep : joinF out (e :: w) = joinF (if cntV out (nr e 0) < nr e 1 then withV out (nr e 0) (nr e 1) else out) w := rfl
    rw [hstep]
    by_cases hc : cntV out (nr e 0) < nr e 1
    · rw [if_pos hc]
      have e1 : withV out (nr e 0) (nr e 1) = withF (nr e 0) (nr e 1) false out := by
        unfold withV
        rw [if_neg (by omega), decide_eq_false (by omega)]
      rw [e1]
      obtain ⟨g1, g2, g3⟩ := withF_asc (a := nr e 0) (k := nr e 1) ho
      have g4 : EntOk (withF (nr e 0) (nr e 1) false out) := fun x hx => by
        rcases g3 x hx with hx | rfl
        · exact eo x hx
        · exact ⟨rfl, he.2⟩
      obtain ⟨f1, f2, f3⟩ := joinF_is g1 g4 hw'.2 ew'
      refine ⟨f1, f2, fun a => ?_⟩
      rw [f3, g2, cntV]
      by_cases ha : a = nr e 0
      · subst ha
        rw [if_pos rfl, if_pos rfl, hne]
        omega
      · rw [if_neg ha, if_neg (fun h => ha h.symm)]
    · rw [if_neg hc]
      obtain ⟨f1, f2, f3⟩ := joinF_is ho eo hw'.2 ew'
      refine ⟨f1, f2, fun a => ?_⟩
      rw [f3, cntV]
      by_cases ha : a = nr e 0
      · subst ha
        have := cntV_pos eo (nr e 0)
        rw [if_pos rfl, hne]
        omega
      · rw [if_neg (fun h => ha h.symm)]

theorem meetV_is {w : Rs} (ew : EntOk w) : ∀ {v : Rs}, AscV v → EntOk v → AscV (meetV v w) ∧ EntOk (meetV v w) ∧ (∀ a, cntV (meetV v w) a = min (cntV v a) (cntV w a)) ∧ ∀ x ∈ meetV v w, ∃ e ∈ v, nr x 0 = nr e 0
  | [], _, _ => ⟨by simp [meetV, AscV], fun e he => (by cases he), fun a => by
    have := cntV_pos ew a
    show (0 : Int) = min 0 (cntV w a)
    omega, fun x hx => (by cases hx)⟩
  | e :: v, hv, ev => by
    have hv' := List.pairwise_cons.1 hv
    have he := ev e List.mem_cons_self
    obtain ⟨f1, f2, f3, f4⟩ := meetV_is ew hv'.2 fun x hx => ev x (List.mem_cons_of_mem _ hx)
    have hstep : meetV (e :: v) w = meetV1 w e ++ meetV v w := rfl
    have hne : cntV v (nr e 0) = 0 := cntV_not (Bool.eq_false_iff.2 fun hh => by
      obtain ⟨q, hq, e0⟩ := hasV_iff.1 hh
      have := hv'.1 q hq
      omega)
    have hw0 := cntV_pos ew (nr e 0)
    rw [hstep]
    unfold meetV1
    by_cases hc : 0 < min (nr e 1) (cntV w (nr e 0))
    · rw [if_pos hc]
      refine ⟨List.pairwise_cons.2 ⟨fun x hx => ?_, f1⟩, fun x hx => ?_, fun a => ?_, fun x hx => ?_⟩
      · obtain ⟨q, hq, e0⟩ := f4 x hx
        have := hv'.1 q hq
        show nr e 0 < nr x 0
        omega
      · rcases List.mem_cons.1 hx with rfl | hx
        · refine ⟨rfl, he.2.1, ?_, ?_⟩
          · show 1 ≤ min (nr e 1) (cntV w (nr e 0))
            omega
          · show min (nr e 1) (cntV w (nr e 0)) ≤ 1000000
            omega
        · exact f2 x hx
      · rw [List.cons_append, List.nil_append, cntV, cntV]
        by_cases ha : a = nr e 0
        · subst ha
          rw [if_pos (show nr (ent (nr e 0) (min (nr e 1) (cntV w (nr e 0)))) 0 = nr e 0 from rfl), if_pos rfl]
          rfl
        · rw [if_neg (show ¬ nr (ent (nr e 0) (min (nr e 1) (cntV w (nr e 0)))) 0 = a from fun h => ha h.symm), if_neg (fun h => ha h.symm), f3]
      · rcases List.mem_cons.1 hx with rfl | hx
        · exact ⟨e, List.mem_cons_self, rfl⟩
        · obtain ⟨q, hq, e0⟩ := f4 x hx
          exact ⟨q, List.mem_cons_of_mem _ hq, e0⟩
    · rw [if_neg hc, List.nil_append]
      refine ⟨f1, f2, fun a => ?_, fun x hx => ?_⟩
      · rw [f3, cntV]
        by_cases ha : a = nr e 0
        · subst ha
          rw [if_pos rfl, hne]
          omega
        · rw [if_neg (fun h => ha h.symm)]
      · obtain ⟨q, hq, e0⟩ := f4 x hx
        exact ⟨q, List.mem_cons_of_mem _ hq, e0⟩

theorem leV_iff {v w : Rs} (hv : AscV v) (ev : EntOk v) (ew : EntOk w) : leV v w = true ↔ ∀ a, cntV v a ≤ cntV w a := by
  unfold leV
  rw [List.all_eq_true]
  constructor
  · intro h a
    by_cases h0 : cntV v a = 0
    · rw [h0]; exact cntV_pos ew a
    · have hm := mem_of_cntV ev h0
      have := h _ hm
      simp only [Bool.not_eq_true', decide_eq_false_iff_not] at this
      have : ¬ cntV w a < cntV v a := this
      omega
  · intro h e he
    have h1 := h (nr e 0)
    rw [cntV_mem hv he] at h1
    simp only [Bool.not_eq_true', decide_eq_false_iff_not]
    omega

/-- counts of lists that hold the same -/
theorem vec_has {v w c d : Rs} (hv : IsVec v c) (hw : IsVec w d) : (∀ r, hasK c r = true → hasK d r = true) ↔ ∀ a, cntV v a ≤ cntV w a := by
  constructor
  · intro h a
    by_cases h0 : cntV v a = 0
    · rw [h0]; exact cntV_pos hw.ents a
    · have hp := cntV_pos hv.ents a
      have h1 := (hv.has (ent a (cntV v a))).2 (show 1 ≤ cntV v a ∧ cntV v a ≤ cntV v a by omega)
      exact ((hw.has _).1 (h _ h1)).2
  · intro h r hr
    have h1 := (hv.has r).1 hr
    have := h (nr r 0)
    exact (hw.has r).2 (by omega)

end Go.Proofs.Ytkfniijfenkocaa
