/-
  Rows that are ordered by their first two numbers: where one lies, union, intersection, parts; and vectors of counts. In plain Lean.
-/
import Derived.Test.YtkfniijfenkocaaA31
namespace Go.Proofs.Ytkfniijfenkocaa
open Go.Abs

abbrev Rs := List (List Cell)

def kLt (r q : List Cell) : Bool := decide (nr r 0 < nr q 0) || (decide (nr r 0 = nr q 0) && decide (nr r 1 < nr q 1))
def kEq (r q : List Cell) : Bool := decide (nr r 0 = nr q 0) && decide (nr r 1 = nr q 1)

theorem kLt_iff {r q : List Cell} : kLt r q = true ↔ nr r 0 < nr q 0 ∨ (nr r 0 = nr q 0 ∧ nr r 1 < nr q 1) := by simp [kLt]
theorem kEq_iff {r q : List Cell} : kEq r q = true ↔ nr r 0 = nr q 0 ∧ nr r 1 = nr q 1 := by simp [kEq]
theorem kLt_false {r q : List Cell} : kLt r q = false ↔ ¬ (nr r 0 < nr q 0 ∨ (nr r 0 = nr q 0 ∧ nr r 1 < nr q 1)) := by
  rw [← kLt_iff]; simp
theorem kEq_false {r q : List Cell} : kEq r q = false ↔ ¬ (nr r 0 = nr q 0 ∧ nr r 1 = nr q 1) := by
  rw [← kEq_iff]; simp
theorem kEq_refl (r : List Cell) : kEq r r = true := kEq_iff.2 ⟨rfl, rfl⟩
theorem kLt_trans {r q p : List Cell} (h1 : kLt r q = true) (h2 : kLt q p = true) : kLt r p = true := by
  rw [kLt_iff] at *; omega

/-- ascending -/
def Asc (l : Rs) : Prop := l.Pairwise fun r q => kLt r q = true
instance (l : Rs) : Decidable (Asc l) := inferInstanceAs (Decidable (l.Pairwise _))
def ascB (l : Rs) : Bool := decide (Asc l)

theorem ascB_of {l : Rs} (h : ascB l = true) : Asc l := of_decide_eq_true h
theorem ascB_mk {l : Rs} (h : Asc l) : ascB l = true := decide_eq_true h

def hasK (c : Rs) (p : List Cell) : Bool := c.any fun q => kEq q p
/-- how many lie before -/
def lowK (c : Rs) (p : List Cell) : Nat := (c.takeWhile fun q => kLt q p).length

theorem hasK_iff {c : Rs} {p : List Cell} : hasK c p = true ↔ ∃ q ∈ c, nr q 0 = nr p 0 ∧ nr q 1 = nr p 1 := by
  simp [hasK, List.any_eq_true, kEq_iff]

theorem hasK_nil (p : List Cell) : hasK [] p = false := rfl
theorem hasK_cons (q : List Cell) (c : Rs) (p : List Cell) : hasK (q :: c) p = (kEq q p || hasK c p) := rfl

theorem lowK_le (c : Rs) (p : List Cell) : lowK c p ≤ c.length := by
  unfold lowK
  exact (List.takeWhile_prefix _).length_le

theorem lowK_lt {c : Rs} {p : List Cell} {i : Nat} (h : i < lowK c p) : kLt (Abs.rowAt c i) p = true := by
  unfold lowK at h
  induction c generalizing i with
  | nil => simp at h
  | cons q c ih =>
    rw [List.takeWhile_cons] at h
    split at h
    · rename_i hq
      cases i with
      | zero => exact hq
      | succ i => exact ih (by simpa using h)
    · simp at h

theorem lowK_ge {c : Rs} (ha : Asc c) {p : List Cell} {i : Nat} (hi : i < c.length) (h : lowK c p ≤ i) : kLt (Abs.rowAt c i) p = false := by
  unfold lowK at h
  induction c generalizing i with
  | nil => simp at hi
  | cons q c ih =>
    rw [List.takeWhile_cons] at h
    have ha' := List.pairwise_cons.1 ha
    split at h
    · cases i with
      | zero => simp at h
      | succ i => exact ih ha'.2 (by simpa using hi) (by simpa using h)
    · rename_i hq
      have hq : kLt q p = false := by simpa using hq
      cases i with
      | zero => exact hq
      | succ i =>
        have hi' : i < c.length := by simpa using hi
        have h1 : kLt q (Abs.rowAt c i) = true := ha'.1 _ (by rw [rowAt_eq hi']; exact List.getElem_mem hi')
        show kLt (Abs.rowAt c i) p = false
        rw [kLt_iff] at h1
        rw [kLt_false] at hq ⊢
        omega

/-- .. and who lies there -/
theorem hasK_low {c : Rs} (ha : Asc c) (p : List Cell) : hasK c p = (decide (lowK c p < c.length) && kEq (Abs.rowAt c (lowK c p)) p) := by
  rw [Bool.eq_iff_iff]
  constructor
  · intro h
    obtain ⟨q, hq, he⟩ := hasK_iff.1 h
    obtain ⟨j, hj, rfl⟩ := List.getElem_of_mem hq
    have hj' : Abs.rowAt c j = c[j] := rowAt_eq hj
    have h1 : ¬ j < lowK c p := fun hlt => by
      have := lowK_lt hlt
      rw [hj', kLt_iff] at this
      omega
    have h2 : lowK c p < c.length := by omega
    have h3 : lowK c p = j := by
      by_cases hlt : lowK c p < j
      · have h4 := lowK_ge ha h2 (Nat.le_refl _)
        have h5 : kLt c[lowK c p] c[j] = true := List.pairwise_iff_getElem.1 ha _ _ h2 hj hlt
        rw [rowAt_eq h2] at h4
        rw [kLt_iff] at h5
        rw [kLt_false] at h4
        omega
      · omega
    rw [h3, hj']
    simp only [Bool.and_eq_true, decide_eq_true_eq]
    exact ⟨hj, kEq_iff.2 he⟩
  · intro h
    simp only [Bool.and_eq_true, decide_eq_true_eq] at h
    refine hasK_iff.2 ⟨_, ?_, kEq_iff.1 h.2⟩
    rw [rowAt_eq h.1]
    exact List.getElem_mem h.1

/-- put in, unless one of its place is there -/
def insK : Rs → List Cell → Rs
  | [], p => [p]
  | q :: l, p => if kEq p q = true then q :: l else if kLt p q = true then p :: q :: l else q :: insK l p

def uniK (a b : Rs) : Rs := b.foldl insK a
def meetK (a b : Rs) : Rs := a.filter fun r => hasK b r
def contK (a b : Rs) : Bool := b.all fun r => hasK a r

def mrgF : Nat → Rs → Rs → Rs
  | 0, _, _ => []
  | _ + 1, [], b => b
  | _ + 1, a, [] => a
  | n + 1, r :: a, q :: b => if kLt r q = true then r :: mrgF n a (q :: b) else if kLt q r = true then q :: mrgF n (r :: a) b else r :: mrgF n a b

def mrgK (a b : Rs) : Rs := mrgF (a.length + b.length + 1) a b

theorem asc_cons {r : List Cell} {l : Rs} : Asc (r :: l) ↔ (∀ q ∈ l, kLt r q = true) ∧ Asc l := List.pairwise_cons

theorem mem_insK : ∀ {l : Rs} {p x : List Cell}, x ∈ insK l p ↔ x ∈ l ∨ (x = p ∧ hasK (l.takeWhile fun q => !kLt p q) p = false)
  | [], p, x => by simp [insK, hasK]
  | q :: l, p, x => by
    unfold insK
    by_cases h1 : kEq p q = true
    · rw [if_pos h1]
      have h2 : kLt p q = false := by rw [kEq_iff] at h1; rw [kLt_false]; omega
      have h3 : kEq q p = true := by rw [kEq_iff] at h1 ⊢; omega
      simp [List.takeWhile_cons, h2, hasK_cons, h3]
    · rw [if_neg h1]
      have h3 : kEq q p = false := by rw [kEq_iff] at h1; rw [kEq_false]; omega
      by_cases h2 : kLt p q = true
      · rw [if_pos h2]
        simp only [List.takeWhile_cons, h2, Bool.not_true, Bool.false_eq_true, if_false, hasK_nil, and_true, List.mem_cons]
        constructor
        · rintro (h | h)
          · exact .inr h
          · exact .inl h
        · rintro (h | h)
          · exact .inr h
          · exact .inl h
      · rw [if_neg h2]
        have h2 : kLt p q = false := by simpa using h2
        rw [List.mem_cons, mem_insK, List.mem_cons, List.takeWhile_cons, h2]
        simp only [Bool.not_false, if_true, hasK_cons, h3, Bool.false_or]
        constructor
        · rintro (h | h | h)
          · exact .inl (.inl h)
          · exact .inl (.inr h)
          · exact .inr h
        · rintro ((h | h) | h)
          · exact .inl h
          · exact .inr (.inl h)
          · exact .inr (.inr h)

theorem asc_insK : ∀ {l : Rs} {p : List Cell}, Asc l → Asc (insK l p)
  | [], p, _ => by simp [insK, Asc]
  | q :: l, p, h => by
    have h' := asc_cons.1 h
    unfold insK
    split
    · exact h
    · rename_i h1
      split
      · rename_i h2
        refine asc_cons.2 ⟨fun x hx => ?_, h⟩
        rcases List.mem_cons.1 hx with rfl | hx
        · exact h2
        · exact kLt_trans h2 (h'.1 x hx)
      · rename_i h2
        refine asc_cons.2 ⟨fun x hx => ?_, asc_insK h'.2⟩
        rcases mem_insK.1 hx with hx | ⟨rfl, _⟩
        · exact h'.1 x hx
        · rw [kEq_iff] at h1
          rw [kLt_iff] at h2
          rw [kLt_iff]
          omega

theorem asc_uniK {a : Rs} (h : Asc a) : ∀ b : Rs, Asc (uniK a b) := fun b => by
  unfold uniK
  induction b generalizing a with
  | nil => exact h
  | cons p b ih => exact ih (asc_insK h)

theorem asc_filter {l : Rs} (h : Asc l) (p : List Cell → Bool) : Asc (l.filter p) := List.Pairwise.sublist List.filter_sublist h

/-- all before are less: it goes to the end -/
theorem insK_end : ∀ {l : Rs} {p : List Cell}, (∀ q ∈ l, kLt q p = true) → insK l p = l ++ [p]
  | [], _, _ => rfl
  | q :: l, p, h => by
    have h1 := h q List.mem_cons_self
    have h2 : ¬ kEq p q = true := by rw [kEq_iff]; rw [kLt_iff] at h1; omega
    have h3 : ¬ kLt p q = true := by rw [kLt_iff] at h1 ⊢; omega
    rw [insK, if_neg h2, if_neg h3, insK_end fun x hx => h x (List.mem_cons_of_mem _ hx)]
    rfl

theorem insK_app : ∀ {l m : Rs} {p : List Cell}, (∀ q ∈ l, kLt q p = true) → insK (l ++ m) p = l ++ insK m p
  | [], _, _, _ => rfl
  | q :: l, m, p, h => by
    have h1 := h q List.mem_cons_self
    have h2 : ¬ kEq p q = true := by rw [kEq_iff]; rw [kLt_iff] at h1; omega
    have h3 : ¬ kLt p q = true := by rw [kLt_iff] at h1 ⊢; omega
    rw [List.cons_append, insK, if_neg h2, if_neg h3, insK_app fun x hx => h x (List.mem_cons_of_mem _ hx)]
    rfl

theorem uniK_cons (a : Rs) (p : List Cell) (b : Rs) : uniK a (p :: b) = uniK (insK a p) b := rfl

theorem uniK_app : ∀ {b l m : Rs}, (∀ q ∈ l, ∀ p ∈ b, kLt q p = true) → uniK (l ++ m) b = l ++ uniK m b
  | [], _, _, _ => rfl
  | p :: b, l, m, h => by
    rw [uniK_cons, insK_app (fun q hq => h q hq p List.mem_cons_self), uniK_app fun q hq x hx => h q hq x (List.mem_cons_of_mem _ hx)]
    rfl

theorem uniK_nil : ∀ {b : Rs}, Asc b → uniK [] b = b
  | [], _ => rfl
  | p :: b, h => by
    have h' := asc_cons.1 h
    rw [uniK_cons]
    show uniK ([p] ++ []) b = _
    rw [uniK_app (fun q hq x hx => by rw [List.mem_singleton] at hq; subst hq; exact h'.1 x hx), uniK_nil h'.2]
    rfl

/-- the merge of two ascending lists puts the second into the first -/
theorem mrgF_uni : ∀ (n : Nat) (a b : Rs), a.length + b.length < n → Asc a → Asc b → mrgF n a b = uniK a b
  | 0, _, _, h, _, _ => by omega
  | n + 1, [], b, _, _, hb => by rw [uniK_nil hb]; simp [mrgF]
  | n + 1, r :: a, [], _, _, _ => rfl
  | n + 1, r :: a, q :: b, h, ha, hb => by
    have ha' := asc_cons.1 ha
    have hb' := asc_cons.1 hb
    simp only [List.length_cons] at h
    unfold mrgF
    by_cases h1 : kLt r q = true
    · rw [if_pos h1, mrgF_uni n a (q :: b) (by simp; omega) ha'.2 hb]
      show r :: _ = uniK ([r] ++ a) (q :: b)
      rw [uniK_app]
      · rfl
      · intro x hx y hy
        rw [List.mem_singleton] at hx
        subst hx
        rcases List.mem_cons.1 hy with rfl | hy
        · exact h1
        · exact kLt_trans h1 (hb'.1 y hy)
    · rw [if_neg h1]
      have h1' := h1
      rw [kLt_iff] at h1'
      by_cases h2 : kLt q r = true
      · rw [if_pos h2, mrgF_uni n (r :: a) b (by simp; omega) ha hb'.2, uniK_cons, insK, if_neg (by rw [kEq_iff]; rw [kLt_iff] at h2; omega), if_pos h2]
        show q :: _ = uniK ([q] ++ (r :: a)) b
        rw [uniK_app]
        · rfl
        · intro x hx y hy
          rw [List.mem_singleton] at hx
          subst hx
          exact hb'.1 y hy
      · rw [if_neg h2, mrgF_uni n a b (by omega) ha'.2 hb'.2, uniK_cons]
        have h2' := h2
        rw [kLt_iff] at h2'
        rw [insK, if_pos (by rw [kEq_iff]; omega)]
        show r :: _ = uniK ([r] ++ a) b
        rw [uniK_app]
        · rfl
        · intro x hx y hy
          rw [List.mem_singleton] at hx
          subst hx
          have := hb'.1 y hy
          rw [kLt_iff] at this ⊢
          omega

theorem mrgK_uni {a b : Rs} (ha : Asc a) (hb : Asc b) : mrgK a b = uniK a b := mrgF_uni _ a b (by omega) ha hb

/- PARTS OF ONE ASCENDING LIST -/

/-- of two ascending lists, the same who lies in them -/
theorem asc_ext : ∀ {a b : Rs}, Asc a → Asc b → (∀ x, x ∈ a ↔ x ∈ b) → a = b
  | [], [], _, _, _ => rfl
  | [], q :: b, _, _, h => by have := (h q).2 List.mem_cons_self; cases this
  | r :: a, [], _, _, h => by have := (h r).1 List.mem_cons_self; cases this
  | r :: a, q :: b, ha, hb, h => by
    have ha' := asc_cons.1 ha
    have hb' := asc_cons.1 hb
    have hrq : r = q := by
      rcases List.mem_cons.1 ((h r).1 List.mem_cons_self) with e | h1
      · exact e
      · rcases List.mem_cons.1 ((h q).2 List.mem_cons_self) with e | h2
        · exact e.symm
        · have := kLt_iff.1 (hb'.1 r h1)
          have := kLt_iff.1 (ha'.1 q h2)
          omega
    subst hrq
    rw [asc_ext ha'.2 hb'.2 fun x => ?_]
    constructor
    · intro hx
      rcases List.mem_cons.1 ((h x).1 (List.mem_cons_of_mem _ hx)) with rfl | h1
      · have := kLt_iff.1 (ha'.1 x hx); omega
      · exact h1
    · intro hx
      rcases List.mem_cons.1 ((h x).2 (List.mem_cons_of_mem _ hx)) with rfl | h1
      · have := kLt_iff.1 (hb'.1 x hx); omega
      · exact h1

theorem asc_inj {P : Rs} (hP : Asc P) {x y : List Cell} (hx : x ∈ P) (hy : y ∈ P) (h0 : nr x 0 = nr y 0) (h1 : nr x 1 = nr y 1) : x = y := by
  obtain ⟨i, hi, rfl⟩ := List.getElem_of_mem hx
  obtain ⟨j, hj, rfl⟩ := List.getElem_of_mem hy
  rcases Nat.lt_trichotomy i j with h | rfl | h
  · have := kLt_iff.1 (List.pairwise_iff_getElem.1 hP i j hi hj h); omega
  · rfl
  · have := kLt_iff.1 (List.pairwise_iff_getElem.1 hP j i hj hi h); omega

theorem hasK_filter {P : Rs} (hP : Asc P) (f : List Cell → Bool) {x : List Cell} (hx : x ∈ P) : hasK (P.filter f) x = f x := by
  rw [Bool.eq_iff_iff, hasK_iff]
  constructor
  · rintro ⟨q, hq, h0, h1⟩
    have hq' := List.mem_filter.1 hq
    have := asc_inj hP hq'.1 hx h0 h1
    subst this
    exact hq'.2
  · intro h
    exact ⟨x, List.mem_filter.2 ⟨hx, h⟩, rfl, rfl⟩

theorem hasK_self {P : Rs} {x : List Cell} (hx : x ∈ P) : hasK P x = true := hasK_iff.2 ⟨x, hx, rfl, rfl⟩

theorem mem_insK_asc {l : Rs} (h : Asc l) {p x : List Cell} : x ∈ insK l p ↔ x ∈ l ∨ (x = p ∧ hasK l p = false) := by
  rw [mem_insK]
  have e : hasK (l.takeWhile fun q => !kLt p q) p = hasK l p := by
    clear x
    induction l with
    | nil => rfl
    | cons q l ih =>
      have h' := asc_cons.1 h
      rw [List.takeWhile_cons]
      by_cases h1 : kLt p q = true
      · simp only [h1, Bool.not_true, Bool.false_eq_true, if_false]
        symm
        rw [hasK_nil]
        refine Bool.eq_false_iff.2 fun hh => ?_
        obtain ⟨y, hy, h0, h2⟩ := hasK_iff.1 hh
        rw [kLt_iff] at h1
        rcases List.mem_cons.1 hy with rfl | hy
        · omega
        · have := kLt_iff.1 (h'.1 y hy); omega
      · have h1 : kLt p q = false := by simpa using h1
        simp only [h1, Bool.not_false, if_true, hasK_cons, ih h'.2]
  rw [e]

theorem mem_uniK_asc : ∀ {b a : Rs}, Asc a → Asc b → ∀ {x : List Cell}, x ∈ uniK a b ↔ x ∈ a ∨ (x ∈ b ∧ hasK a x = false)
  | [], a, _, _, x => by simp [uniK]
  | p :: b, a, ha, hb, x => by
    have hb' := asc_cons.1 hb
    rw [uniK_cons, mem_uniK_asc (asc_insK ha) hb'.2, mem_insK_asc ha]
    constructor
    · rintro ((h | ⟨rfl, h⟩) | ⟨h, h1⟩)
      · exact .inl h
      · exact .inr ⟨List.mem_cons_self, h⟩
      · refine .inr ⟨List.mem_cons_of_mem _ h, ?_⟩
        refine Bool.eq_false_iff.2 fun hh => ?_
        obtain ⟨y, hy, e⟩ := hasK_iff.1 hh
        have : hasK (insK a p) x = true := hasK_iff.2 ⟨y, (mem_insK_asc ha).2 (.inl hy), e⟩
        rw [h1] at this
        cases this
    · rintro (h | ⟨h, h1⟩)
      · exact .inl (.inl h)
      · rcases List.mem_cons.1 h with rfl | h2
        · exact .inl (.inr ⟨rfl, h1⟩)
        · refine .inr ⟨h2, ?_⟩
          refine Bool.eq_false_iff.2 fun hh => ?_
          obtain ⟨y, hy, e⟩ := hasK_iff.1 hh
          rcases (mem_insK_asc ha).1 hy with hy | ⟨rfl, _⟩
          · have : hasK a x = true := hasK_iff.2 ⟨y, hy, e⟩
            rw [h1] at this
            cases this
          · have := kLt_iff.1 (hb'.1 x h2); omega

theorem uniK_filter {P : Rs} (hP : Asc P) (f g : List Cell → Bool) : uniK (P.filter f) (P.filter g) = P.filter fun r => f r || g r := by
  refine asc_ext (asc_uniK (asc_filter hP f) _) (asc_filter hP _) fun x => ?_
  rw [mem_uniK_asc (asc_filter hP f) (asc_filter hP g)]
  simp only [List.mem_filter, Bool.or_eq_true]
  constructor
  · rintro (⟨h, h1⟩ | ⟨⟨h, h1⟩, _⟩)
    · exact ⟨h, .inl h1⟩
    · exact ⟨h, .inr h1⟩
  · rintro ⟨h, h1⟩
    by_cases hf : f x = true
    · exact .inl ⟨h, hf⟩
    · refine .inr ⟨⟨h, h1.resolve_left hf⟩, ?_⟩
      rw [hasK_filter hP f h]
      simpa using hf

theorem filter_congr' {P : Rs} {f g : List Cell → Bool} (h : ∀ x ∈ P, f x = g x) : P.filter f = P.filter g := List.filter_congr h

theorem meetK_filter {P : Rs} (hP : Asc P) (f g : List Cell → Bool) : meetK (P.filter f) (P.filter g) = P.filter fun r => f r && g r := by
  unfold meetK
  rw [List.filter_filter]
  exact filter_congr' fun x hx => by rw [hasK_filter hP g hx, Bool.and_comm]

theorem contK_filter {P : Rs} (hP : Asc P) (f g : List Cell → Bool) : contK (P.filter f) (P.filter g) = true ↔ ∀ x ∈ P, g x = true → f x = true := by
  unfold contK
  rw [List.all_eq_true]
  constructor
  · intro h x hx hg
    have := h x (List.mem_filter.2 ⟨hx, hg⟩)
    rwa [hasK_filter hP f hx] at this
  · intro h x hx
    have hx' := List.mem_filter.1 hx
    rw [hasK_filter hP f hx'.1]
    exact h x hx'.1 hx'.2

/-- two parts of one list, the one within the other, of one length -/
theorem filter_len {P : Rs} {f g : List Cell → Bool} (h : ∀ x ∈ P, f x = true → g x = true) (hl : (P.filter g).length = (P.filter f).length) : ∀ x ∈ P, g x = true → f x = true := by
  induction P with
  | nil => intro x hx; cases hx
  | cons r P ih =>
    have hle : (P.filter f).length ≤ (P.filter g).length := by
      have : ∀ Q : Rs, (∀ x ∈ Q, f x = true → g x = true) → (Q.filter f).length ≤ (Q.filter g).length := by
        intro Q
        induction Q with
        | nil => simp
        | cons q Q ih2 =>
          intro hQ
          have h2 := ih2 fun x hx => hQ x (List.mem_cons_of_mem _ hx)
          have h3 := hQ q List.mem_cons_self
          rw [List.filter_cons, List.filter_cons]
          by_cases hf : f q = true
          · rw [if_pos hf, if_pos (h3 hf)]; simp only [List.length_cons]; omega
          · rw [if_neg hf]
            split
            · simp only [List.length_cons]; omega
            · exact h2
      exact this P fun x hx => h x (List.mem_cons_of_mem _ hx)
    rw [List.filter_cons, List.filter_cons] at hl
    have h3 := h r List.mem_cons_self
    intro x hx hg
    by_cases hf : f r = true
    · rw [if_pos hf, if_pos (h3 hf)] at hl
      simp only [List.length_cons] at hl
      rcases List.mem_cons.1 hx with rfl | hx
      · exact hf
      · exact ih (fun x hx => h x (List.mem_cons_of_mem _ hx)) (by omega) x hx hg
    · rw [if_neg hf] at hl
      by_cases hgr : g r = true
      · rw [if_pos hgr] at hl
        simp only [List.length_cons] at hl
        omega
      · rw [if_neg hgr] at hl
        rcases List.mem_cons.1 hx with rfl | hx
        · exact absurd hg hgr
        · exact ih (fun x hx => h x (List.mem_cons_of_mem _ hx)) hl x hx hg

/- VECTORS: rows of an author and a count -/

def ent (a k : Int) : List Cell := [.int .i64 a, .int .i64 k]
def isEn : List Cell → Bool
  | [.int .i64 _, .int .i64 _] => true
  | _ => false

def okLn (c : Rs) : Bool := decide (c.length ≤ 1000)
def okSrt (c : Rs) : Bool := okLn c && ascB c
def AscV (v : Rs) : Prop := v.Pairwise fun r q => nr r 0 < nr q 0
instance (l : Rs) : Decidable (AscV l) := inferInstanceAs (Decidable (l.Pairwise _))
def ascVB (v : Rs) : Bool := decide (AscV v)
def okVec (v : Rs) : Bool := okLn v && ascVB v
def okEn (v : Rs) : Bool := v.all isEn
def okEv (v : Rs) : Bool := decide (v.length ≤ 100000) && v.all isEn
def okJn (v w : Rs) : Bool := decide (v.length + w.length ≤ 1000) && v.all isEn

def lowV (v : Rs) (a : Int) : Nat := (v.takeWhile fun e => decide (nr e 0 < a)).length
def hasV (v : Rs) (a : Int) : Bool := v.any fun e => decide (nr e 0 = a)
def cntV : Rs → Int → Int
  | [], _ => 0
  | e :: v, a => if nr e 0 = a then nr e 1 else cntV v a

/-- one more of an author: counted at the last entry, or in a new one -/
def vstep (v : Rs) (a : Int) : Rs :=
  if 0 < v.length ∧ nr (Abs.rowAt v (v.length - 1)) 0 = a then v.take (v.length - 1) ++ [ent a (nr (Abs.rowAt v (v.length - 1)) 1 + 1)] else v ++ [ent a 1]
def vecF (v : Rs) (c : Rs) : Rs := c.foldl (fun v r => vstep v (nr r 0)) v
def vecK (c : Rs) : Rs := vecF [] c

def withF (a k : Int) : Bool → Rs → Rs
  | put, [] => if put = true then [] else [ent a k]
  | put, e :: v =>
    if put = false ∧ a ≤ nr e 0 then (if nr e 0 = a then ent a k :: withF a k true v else ent a k :: e :: withF a k true v)
    else if nr e 0 = a then withF a k put v else e :: withF a k put v
def withV (v : Rs) (a k : Int) : Rs := if a < 1 ∨ k < 0 ∨ 1000000 < k then v else withF a k (decide (k = 0)) v

def vecRF (v : Rs) (c : Rs) : Rs := c.foldl (fun v r => withV v (nr r 0) (cntV v (nr r 0) + 1)) v
def vecR (c : Rs) : Rs := vecRF [] c

def eqVF : Rs → Rs → Bool
  | [], _ => true
  | e :: v, w => (decide (nr e 0 = nr (Abs.rowAt w 0) 0) && decide (nr e 1 = nr (Abs.rowAt w 0) 1)) && eqVF v (w.drop 1)
def eqVec (v w : Rs) : Bool := decide (v.length = w.length) && eqVF v w

def joinF (out w : Rs) : Rs := w.foldl (fun out e => if cntV out (nr e 0) < nr e 1 then withV out (nr e 0) (nr e 1) else out) out
def joinV (v w : Rs) : Rs := joinF v w
def meetV1 (w : Rs) (e : List Cell) : Rs := if 0 < min (nr e 1) (cntV w (nr e 0)) then [ent (nr e 0) (min (nr e 1) (cntV w (nr e 0)))] else []
def meetV (v w : Rs) : Rs := v.flatMap (meetV1 w)
def leV (v w : Rs) : Bool := v.all fun e => !decide (cntV w (nr e 0) < nr e 1)

def vVecF (first : Bool) (q : List Cell) : Rs → Int
  | [] => 0
  | e :: v =>
    if nr e 0 < 1 ∨ nr e 1 < 1 ∨ 1000000 < nr e 1 then 9
    else if first = false ∧ nr e 0 ≤ nr q 0 then 7
    else vVecF false e v
def vVec (v : Rs) : Int := vVecF true [] v

/-- those whose number the vector covers -/
def restr (c v : Rs) : Rs := c.filter fun r => decide (nr r 1 ≤ cntV v (nr r 0))

theorem lowV_le (c : Rs) (a : Int) : lowV c a ≤ c.length := (List.takeWhile_prefix _).length_le

theorem lowV_lt {c : Rs} {a : Int} {i : Nat} (h : i < lowV c a) : nr (Abs.rowAt c i) 0 < a := by
  unfold lowV at h
  induction c generalizing i with
  | nil => simp at h
  | cons q c ih =>
    rw [List.takeWhile_cons] at h
    split at h
    · rename_i hq
      cases i with
      | zero => exact of_decide_eq_true hq
      | succ i => exact ih (by simpa using h)
    · simp at h

theorem lowV_ge {c : Rs} (ha : AscV c) {a : Int} {i : Nat} (hi : i < c.length) (h : lowV c a ≤ i) : ¬ nr (Abs.rowAt c i) 0 < a := by
  unfold lowV at h
  induction c generalizing i with
  | nil => simp at hi
  | cons q c ih =>
    rw [List.takeWhile_cons] at h
    have ha' := List.pairwise_cons.1 ha
    split at h
    · cases i with
      | zero => simp at h
      | succ i => exact ih ha'.2 (by simpa using hi) (by simpa using h)
    · rename_i hq
      have hq : ¬ nr q 0 < a := by simpa using hq
      cases i with
      | zero => exact hq
      | succ i =>
        have hi' : i < c.length := by simpa using hi
        have h1 : nr q 0 < nr (Abs.rowAt c i) 0 := ha'.1 _ (by rw [rowAt_eq hi']; exact List.getElem_mem hi')
        show ¬ nr (Abs.rowAt c i) 0 < a
        omega

theorem hasV_iff {c : Rs} {a : Int} : hasV c a = true ↔ ∃ q ∈ c, nr q 0 = a := by
  simp [hasV, List.any_eq_true]

theorem lowV_at {c : Rs} (ha : AscV c) {a : Int} {j : Nat} (hj : j < c.length) (h : nr (Abs.rowAt c j) 0 = a) : lowV c a = j := by
  have h1 : ¬ j < lowV c a := fun hlt => by
    have := lowV_lt hlt
    omega
  by_cases hlt : lowV c a < j
  · have h4 := lowV_ge ha (show lowV c a < c.length by omega) (Nat.le_refl _)
    have h5 : nr c[lowV c a] 0 < nr c[j] 0 := List.pairwise_iff_getElem.1 ha _ _ (by omega) hj hlt
    rw [rowAt_eq (by omega)] at h4 h
    omega
  · omega

theorem hasV_low {c : Rs} (ha : AscV c) (a : Int) : hasV c a = (decide (lowV c a < c.length) && decide (nr (Abs.rowAt c (lowV c a)) 0 = a)) := by
  rw [Bool.eq_iff_iff]
  constructor
  · intro h
    obtain ⟨q, hq, he⟩ := hasV_iff.1 h
    obtain ⟨j, hj, rfl⟩ := List.getElem_of_mem hq
    have h3 := lowV_at ha hj (a := a) (by rw [rowAt_eq hj]; exact he)
    rw [h3, rowAt_eq hj]
    simp only [Bool.and_eq_true, decide_eq_true_eq]
    exact ⟨hj, he⟩
  · intro h
    simp only [Bool.and_eq_true, decide_eq_true_eq] at h
    refine hasV_iff.2 ⟨_, ?_, h.2⟩
    rw [rowAt_eq h.1]
    exact List.getElem_mem h.1

theorem cntV_at : ∀ {c : Rs} {a : Int} {j : Nat}, j < c.length → nr (Abs.rowAt c j) 0 = a → (∀ i, i < j → nr (Abs.rowAt c i) 0 ≠ a) → cntV c a = nr (Abs.rowAt c j) 1
  | [], _, _, h, _, _ => by simp at h
  | e :: c, a, 0, _, h, _ => by
    have h : nr e 0 = a := h
    rw [cntV, if_pos h]
    rfl
  | e :: c, a, j + 1, hj, h, hn => by
    have h0 : nr e 0 ≠ a := hn 0 (by omega)
    rw [cntV, if_neg h0]
    exact cntV_at (c := c) (j := j) (by simpa using hj) h fun i hi => hn (i + 1) (by omega)

theorem cntV_not : ∀ {c : Rs} {a : Int}, hasV c a = false → cntV c a = 0
  | [], _, _ => rfl
  | e :: c, a, h => by
    have h : (decide (nr e 0 = a) || hasV c a) = false := h
    rw [Bool.or_eq_false_iff] at h
    rw [cntV, if_neg (of_decide_eq_false h.1)]
    exact cntV_not h.2

theorem cntV_low {c : Rs} (ha : AscV c) {a : Int} (h : hasV c a = true) : cntV c a = nr (Abs.rowAt c (lowV c a)) 1 := by
  have h1 := hasV_low ha a
  rw [h] at h1
  have h1 := h1.symm
  simp only [Bool.and_eq_true, decide_eq_true_eq] at h1
  exact cntV_at h1.1 h1.2 fun i hi => by
    have := lowV_lt hi
    omega

def AtMost (v : Rs) (a : Int) : Prop := ∀ e ∈ v, nr e 0 ≤ a

theorem last_mem {v : Rs} (h : 0 < v.length) : Abs.rowAt v (v.length - 1) ∈ v := by
  rw [rowAt_eq (by omega)]
  exact List.getElem_mem _

theorem take_last {v : Rs} (h : 0 < v.length) : v = v.take (v.length - 1) ++ [Abs.rowAt v (v.length - 1)] := by
  have := take_snoc v (v.length - 1) (by omega)
  rw [show v.length - 1 + 1 = v.length by omega, List.take_length] at this
  exact this

theorem vstep_asc {v : Rs} {a : Int} (h : AscV v) (hm : AtMost v a) : AscV (vstep v a) ∧ AtMost (vstep v a) a := by
  unfold vstep
  split
  · rename_i hh
    have e := take_last hh.1
    have h2 : AscV (v.take (v.length - 1) ++ [Abs.rowAt v (v.length - 1)]) := by rw [← e]; exact h
    obtain ⟨g1, _, g3⟩ := List.pairwise_append.1 h2
    refine ⟨List.pairwise_append.2 ⟨g1, by simp, fun x hx y hy => ?_⟩, fun x hx => ?_⟩
    · rw [List.mem_singleton] at hy
      subst hy
      have := g3 x hx _ (List.mem_singleton.2 rfl)
      show nr x 0 < a
      omega
    · rcases List.mem_append.1 hx with hx | hx
      · exact hm x (List.mem_of_mem_take hx)
      · rw [List.mem_singleton] at hx
        subst hx
        exact Int.le_refl a
  · rename_i hh
    refine ⟨List.pairwise_append.2 ⟨h, by simp, fun x hx y hy => ?_⟩, fun x hx => ?_⟩
    · rw [List.mem_singleton] at hy
      subst hy
      show nr x 0 < a
      have h1 := hm x hx
      by_cases h0 : nr x 0 = a
      · exfalso
        have hv : 0 < v.length := List.length_pos_of_mem hx
        refine hh ⟨hv, ?_⟩
        have h2 := hm _ (last_mem hv)
        have e := take_last hv
        rw [e] at hx
        rcases List.mem_append.1 hx with hx | hx
        · have h3 : AscV (v.take (v.length - 1) ++ [Abs.rowAt v (v.length - 1)]) := by rw [← e]; exact h
          have := (List.pairwise_append.1 h3).2.2 x hx _ (List.mem_singleton.2 rfl)
          omega
        · rw [List.mem_singleton] at hx
          rw [← hx]
          exact h0
      · omega
    · rcases List.mem_append.1 hx with hx | hx
      · exact hm x hx
      · rw [List.mem_singleton] at hx
        subst hx
        exact Int.le_refl a

theorem vecF_asc : ∀ {c v : Rs}, AscV v → Asc c → (∀ r ∈ c, AtMost v (nr r 0)) → AscV (vecF v c)
  | [], v, h, _, _ => h
  | r :: c, v, h, hc, hm => by
    have hc' := asc_cons.1 hc
    have h1 := vstep_asc h (hm r List.mem_cons_self)
    refine vecF_asc (c := c) (v := vstep v (nr r 0)) h1.1 hc'.2 fun q hq e he => ?_
    have := h1.2 e he
    have := kLt_iff.1 (hc'.1 q hq)
    omega

theorem vecK_asc {c : Rs} (h : Asc c) : AscV (vecK c) := vecF_asc (by simp [AscV]) h fun r _ e he => by cases he

end Go.Proofs.Ytkfniijfenkocaa
