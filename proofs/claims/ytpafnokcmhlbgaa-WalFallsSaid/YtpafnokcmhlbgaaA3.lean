/-
  How the relation is carried over one operation: a slot is given a value, a block of the call's own is written, a new one is made.
-/
import Derived.Test.YtpafnokcmhlbgaaA2
namespace Go.Abs

variable {E : Env} {R : Places} {ρ : List Nat} {own : OI → Owner} {N : Nat} {st : St} {a : Act} {w : World}

def ownDis (own : OI → Owner) (x : Option Nat) : OI → Owner
  | .tmp t p => if x = some t then none else own (.tmp t p)
  | y => own y

def ownSet (own : OI → Owner) (d : Option Nat) (o : Owners) : OI → Owner
  | .tmp t p => if d = some t then o p else own (.tmp t p)
  | y => own y

theorem ownDis_sub {x : Option Nat} {y : OI} {B t : Nat} (h : ownDis own x y = some (B, t)) : own y = some (B, t) := by
  cases y with
  | tmp s p => simp only [ownDis] at h; split at h <;> simp_all
  | self k => exact h
  | cell k j => exact h

theorem getD_put (a : Act) (d : Option Nat) (v : Value) (t : Nat) (hd : ∀ x, d = some x → x < a.tmps.size) : (a.put d v).tmps.getD t undef = if d = some t then v else a.tmps.getD t undef := by
  cases d with
  | none => simp [Act.put]
  | some d =>
    have h1 := hd d rfl
    by_cases h : d = t
    · subst h; simp [Act.put, h1]
    · simp only [Act.put, Option.some.injEq, h, if_false, Array.getD_eq_getD_getElem?, Array.getElem?_setIfInBounds_ne h]

theorem size_put (a : Act) (d : Option Nat) (v : Value) : (a.put d v).tmps.size = a.tmps.size := by cases d <;> simp [Act.put]
theorem defers_put (a : Act) (d : Option Nat) (v : Value) : (a.put d v).defers = a.defers := by cases d <;> rfl

theorem BlkR.keep {E : Env} {R : Places} {ρ ρ' : List Nat} {own own' : OI → Owner} {w w' : World} {k : Nat} {b : Option Block} {T : Places} (h : BlkR E w (Fn own R) ρ own k b) (hK : Keeps w (Fn own R) w' (Fn own' R))
    (hk : w.keptBut w' (inT T)) (hT : ∀ B t, own (.self k) = some (B, t) → ∀ off, ¬ T B off) (hρ : ∀ b B, nth ρ b = some B → nth ρ' b = some B)
    (hs : own' (.self k) = own (.self k)) (hc : ∀ j, own' (.cell k j) = own (.cell k j)) : BlkR E w' (Fn own' R) ρ' own' k b := by
  cases b with
  | none => exact ⟨hs.trans h.1, fun j => (hc j).trans (h.2 j)⟩
  | some b => cases b with
    | dead => exact ⟨hs.trans h.1, fun j => (hc j).trans (h.2 j)⟩
    | fro e rows => exact ⟨hs.trans h.1, fun j => (hc j).trans (h.2.1 j), h.2.2.keep hK fun B => hρ _ B⟩
    | var cells =>
      obtain ⟨B, h1, h2, h3, h4⟩ := h
      refine ⟨B, hρ _ _ h1, hs.trans h2, fun j hj => (hc j).trans (h3 j hj), fun j hj => ?_⟩
      obtain ⟨v, g1, g2, g3⟩ := h4 j hj
      have hsame : cell w' B j = cell w B j := hk.cell (cell_lt g1) (fun hm => hT B 0 h2 j hm)
      have hth := kept_there hk ⟨⟨v, g1⟩, g2⟩
      refine ⟨v, hsame.trans g1, hth.2, ?_⟩
      rw [hc]
      exact g3.keep hK hρ fun B' t e j' _ hh => kept_there hk hh
    | arr e rows =>
      rcases h with ⟨h1, h2, h3⟩ | ⟨B, te, h1, h2, h3, h4, h5, h7, h6⟩
      · exact .inl ⟨h1, hs.trans h2, fun j => (hc j).trans (h3 j)⟩
      · refine .inr ⟨B, te, hρ _ _ h1, hs.trans h2, fun j => (hc j).trans (h3 j), h4, h5, hK.still B 0 h7, fun i hi => ?_⟩
        obtain ⟨v, g1, g2, g3⟩ := h6 i hi
        have hsame : cell w' B i = cell w B i := hk.cell (cell_lt g1) (fun hm => hT B 0 h2 i hm)
        exact ⟨v, hsame.trans g1, (kept_there hk ⟨⟨v, g1⟩, g2⟩).2, g3.keep hK⟩

/-- A step that gives one slot a value and leaves the blocks alone. -/
theorem Rel.put (h : Rel E R ρ own N st a w) {dst dis : Option Nat} {v : AV} {val : Value} {oV : Owners} {w' : World} {T : Places} {rd : List Nat}
    (hd : ∀ d, dst = some d → d < N) (hk : w.keptBut w' (inT T))
    (hT : ∀ B off, T B off → ∃ x p t, dis = some x ∧ own (.tmp x p) = some (B, t) ∧ t ≤ off)
    (ho : ∀ p B t', oV p = some (B, t') → (∃ x q t, dis = some x ∧ own (.tmp x q) = some (B, t) ∧ t ≤ t') ∨ (w.heap.size ≤ B ∧ B < w'.heap.size))
    (hi : ∀ p p' B t t', oV p = some (B, t) → oV p' = some (B, t') → p = p')
    (hV : Keeps w (Fn own R) w' (Fn (ownSet (ownDis own dis) dst oV) R) → AVR E w' (Fn (ownSet (ownDis own dis) dst oV) R) ρ v val oV) :
    Rel E R ρ (ownSet (ownDis own dis) dst oV) N (st.apply dst ⟨v, dis, [], [], rd⟩) (a.put dst val) w' ∧ Grow own (ownSet (ownDis own dis) dst oV) w w' := by
  have hcase : ∀ y B t', ownSet (ownDis own dis) dst oV y = some (B, t') → (∃ d p, dst = some d ∧ y = .tmp d p ∧ oV p = some (B, t')) ∨ ownDis own dis y = some (B, t') := by
    intro y B t' hy
    cases y with
    | tmp t p =>
      simp only [ownSet] at hy
      split at hy
      · rename_i e; exact .inl ⟨t, p, e, rfl, hy⟩
      · exact .inr hy
    | self k => exact .inr hy
    | cell k j => exact .inr hy
  have g : Grow own (ownSet (ownDis own dis) dst oV) w w' := by
    refine ⟨World.keptBut_mono (inT_mono fun B off hm => ?_) hk, fun y B t' hy => ?_⟩
    · obtain ⟨x, p, t, _, e, l⟩ := hT B off hm; exact ⟨_, t, e, l⟩
    · rcases hcase y B t' hy with ⟨d, p, e, rfl, hp⟩ | hy
      · rcases ho p B t' hp with ⟨x, q, t, _, hx, hl⟩ | hn
        · exact .inr ⟨_, t, hx, hl⟩
        · exact .inl hn.1
      · exact .inr ⟨y, t', ownDis_sub hy, Nat.le_refl _⟩
  have hK := keeps_of (R := R) g
  have hth : ∀ {B j : Nat}, (∃ v, cell w B j = some v) ∧ cold w B j = false → (∃ v, cell w' B j = some v) ∧ cold w' B j = false := fun h => kept_there hk h
  refine ⟨⟨by rw [size_put]; exact h.size, by rw [defers_put]; exact h.defers, fun t => ?_, ?_, fun k => ?_, ?_, ?_, ?_⟩, g⟩
  · have hget : get (st.apply dst ⟨v, dis, [], [], rd⟩).fr t = if dst = some t then v else if dis = some t then (get st.fr t).dis else get st.fr t := by
      simp only [St.apply, get_put, get_disT]
    rw [hget, getD_put a dst val t (by rw [h.size]; exact hd)]
    by_cases e : dst = some t
    · subst e
      simpa [ownSet] using hV hK
    · simp only [e, if_false]
      by_cases e2 : dis = some t
      · simp only [e2, if_true]
        have hh := ((h.fr t).keep hK (fun _ _ h => h) fun p B t' _ j _ hh => hth hh).dis
        rw [e2] at hh
        simpa [ownSet, ownDis, e] using hh
      · simp only [e2, if_false]
        have hh := (h.fr t).keep hK (fun _ _ h => h) fun p B t' _ j _ hh => hth hh
        simpa [ownSet, ownDis, e, e2] using hh
  · simp only [St.apply, writes, app_eq, List.append_nil]; exact h.rho
  · have hb : nth (st.apply dst ⟨v, dis, [], [], rd⟩).blk k = nth st.blk k := by simp only [St.apply, writes, app_eq, List.append_nil]
    rw [hb]
    refine (h.blk k).keep hK hk (fun B t hs off hm => ?_) (fun _ _ h => h) rfl fun _ => rfl
    obtain ⟨x, p, t', _, e, _⟩ := hT B off hm
    have := h.inj _ _ _ _ _ hs e
    cases this
  · intro x y B t t' hx hy
    rcases hcase x B t hx with ⟨d, p, e, rfl, hp⟩ | hx <;> rcases hcase y B t' hy with ⟨d', p', e', rfl, hp'⟩ | hy
    · have : d = d' := by rw [e] at e'; exact Option.some.inj e'
      subst this
      rw [hi p p' B t t' hp hp']
    · exfalso
      rcases ho p B t hp with ⟨z, q, t2, hz, hq, _⟩ | hn
      · have := h.inj _ _ _ _ _ (ownDis_sub hy) hq
        subst this
        simp [ownDis, hz] at hy
      · have := (h.out _ _ _ (ownDis_sub hy)).1; omega
    · exfalso
      rcases ho p' B t' hp' with ⟨z, q, t2, hz, hq, _⟩ | hn
      · have := h.inj _ _ _ _ _ (ownDis_sub hx) hq
        subst this
        simp [ownDis, hz] at hx
      · have := (h.out _ _ _ (ownDis_sub hx)).1; omega
    · exact h.inj _ _ _ _ _ (ownDis_sub hx) (ownDis_sub hy)
  · intro x B t hx
    rcases hcase x B t hx with ⟨d, p, e, rfl, hp⟩ | hx
    · rcases ho p B t hp with ⟨z, q, t2, hz, hq, _⟩ | hn
      · have := h.out _ _ _ hq
        exact ⟨Nat.lt_of_lt_of_le this.1 g.size, this.2⟩
      · exact ⟨hn.2, fun off hR => by have := h.low _ _ hR; omega⟩
    · have := h.out _ _ _ (ownDis_sub hx)
      exact ⟨Nat.lt_of_lt_of_le this.1 g.size, this.2⟩
  · intro B off hR
    exact Nat.lt_of_lt_of_le (h.low B off hR) g.size

/-- what is said of a step as a whole -/
def After (E : Env) (R : Places) (ρ : List Nat) (own : OI → Owner) (N : Nat) (w : World) (st' : St) (a' : Act) (w' : World) : Prop :=
  ∃ ρ' own', (∀ b B, nth ρ b = some B → nth ρ' b = some B) ∧ Rel E R ρ' own' N st' a' w' ∧ Grow own own' w w'

theorem AVR.none_of {E : Env} {w : World} {F : Places} {ρ : List Nat} {a : AV} {v : Value} {o : Owners} (h : AVR E w F ρ a v o) (ho : ∀ p, o p = none) : AVR E w F ρ a v (fun _ => none) := by
  have : o = fun _ => none := funext ho
  rwa [this] at h

/-- the value owns nothing, the world has at most new blocks -/
theorem Rel.pure (h : Rel E R ρ own N st a w) {dst : Option Nat} {v : AV} {val : Value} {w' : World} {rd : List Nat} (hd : ∀ d, dst = some d → d < N) (hk : w.keptBut w' (inT fun _ _ => False))
    (hV : ∀ F', Keeps w (Fn own R) w' F' → (∀ B off, F' B off → Fn own R B off) → AVR E w' F' ρ v val (fun _ => none)) :
    After E R ρ own N w (st.apply dst ⟨v, none, [], [], rd⟩) (a.put dst val) w' := by
  refine ⟨ρ, _, fun _ _ h => h, h.put (dis := none) (oV := fun _ => none) (T := fun _ _ => False) hd hk (fun _ _ h => h.elim) (fun p B t' e => by cases e) (fun p p' B t t' e => by cases e) fun hK => hV _ hK fun B off hF => ?_⟩
  rcases hF with hR | ⟨x, t, hx, hl⟩
  · exact .inl hR
  · refine .inr ⟨x, t, ?_, hl⟩
    cases x with
    | tmp s p =>
      simp only [ownSet] at hx
      split at hx
      · cases hx
      · exact ownDis_sub hx
    | self k => exact hx
    | cell k j => exact hx

theorem Rel.pure0 (h : Rel E R ρ own N st a w) {dst : Option Nat} {v : AV} {val : Value} {rd : List Nat} (hd : ∀ d, dst = some d → d < N)
    (hV : AVR E w (Fn own R) ρ v val (fun _ => none)) : After E R ρ own N w (st.apply dst ⟨v, none, [], [], rd⟩) (a.put dst val) w :=
  h.pure hd (World.keptBut_refl _ _) fun F' hK _ => hV.keep hK (fun _ _ h => h) fun p B t e => by cases e

/-- the value is a slot's own, which gives it up -/
theorem Rel.take (h : Rel E R ρ own N st a w) {dst : Option Nat} {x : Nat} {v : AV} {val : Value} {rd : List Nat} (hd : ∀ d, dst = some d → d < N)
    (hV : AVR E w (Fn own R) ρ v val (fun p => own (.tmp x p))) : After E R ρ own N w (st.apply dst ⟨v, some x, [], [], rd⟩) (a.put dst val) w := by
  refine ⟨ρ, _, fun _ _ h => h, h.put (dis := some x) (oV := fun p => own (.tmp x p)) (T := fun _ _ => False) hd (World.keptBut_refl _ _) (fun _ _ h => h.elim) (fun p B t' e => .inl ⟨x, p, t', rfl, e, Nat.le_refl _⟩)
    (fun p p' B t t' e e' => by have := h.inj _ _ _ _ _ e e'; injection this) fun hK => hV.keep hK (fun _ _ h => h) fun p B t e j _ hh => hh⟩

/-- a part of what a slot owns -/
theorem Rel.takePart (h : Rel E R ρ own N st a w) {dst : Option Nat} {x : Nat} {v : AV} {val : Value} {rd : List Nat} {oV : Owners} (f : List Nat → List Nat) (hf : ∀ p q, f p = f q → p = q) (hd : ∀ d, dst = some d → d < N)
    (ho : ∀ p, oV p = none ∨ oV p = own (.tmp x (f p))) (hV : AVR E w (Fn own R) ρ v val oV) : After E R ρ own N w (st.apply dst ⟨v, some x, [], [], rd⟩) (a.put dst val) w := by
  have ho' : ∀ p B t, oV p = some (B, t) → own (.tmp x (f p)) = some (B, t) := fun p B t e => by
    rcases ho p with h | h
    · rw [h] at e; cases e
    · rw [← h]; exact e
  refine ⟨ρ, _, fun _ _ h => h, h.put (dis := some x) (oV := oV) (T := fun _ _ => False) hd (World.keptBut_refl _ _) (fun _ _ h => h.elim) (fun p B t' e => .inl ⟨x, f p, t', rfl, ho' _ _ _ e, Nat.le_refl _⟩)
    (fun p p' B t t' e e' => by have := h.inj _ _ _ _ _ (ho' _ _ _ e) (ho' _ _ _ e'); injection this with _ hp; exact hf _ _ hp) fun hK => hV.keep hK (fun _ _ h => h) fun p B t e j _ hh => hh⟩

def chgO (chg bch : Nat → Prop) : OI → Prop
  | .tmp t _ => chg t
  | .self k => bch k
  | .cell k _ => bch k

/-- A step in general: what has changed (slots, blocks) is shown anew, the rest is carried over. -/
theorem Rel.gen (h : Rel E R ρ own N st a w) {own' : OI → Owner} {ρ' : List Nat} {st' : St} {a' : Act} {w' : World} (T : Places) (chg bch : Nat → Prop)
    (hk : w.keptBut w' (inT T))
    (hT : ∀ B off, T B off → ∃ x t, own x = some (B, t) ∧ t ≤ off ∧ chgO chg bch x)
    (hn : ∀ y B t', own' y = some (B, t') → (∃ x t, own x = some (B, t) ∧ t ≤ t') ∨ (w.heap.size ≤ B ∧ B < w'.heap.size))
    (hi : ∀ x y B t t', own' x = some (B, t) → own' y = some (B, t') → x = y)
    (hsz : a'.tmps.size = N) (hdf : a'.defers = [])
    (fr0 : ∀ t, ¬ chg t → get st'.fr t = get st.fr t ∧ a'.tmps.getD t undef = a.tmps.getD t undef ∧ ∀ p, own' (.tmp t p) = own (.tmp t p))
    (fr1 : Keeps w (Fn own R) w' (Fn own' R) → ∀ t, chg t → AVR E w' (Fn own' R) ρ' (get st'.fr t) (a'.tmps.getD t undef) (fun p => own' (.tmp t p)))
    (hρ' : ρ'.length = st'.blk.length) (hρ : ∀ b B, nth ρ b = some B → nth ρ' b = some B)
    (blk0 : ∀ k, ¬ bch k → nth st'.blk k = nth st.blk k ∧ own' (.self k) = own (.self k) ∧ ∀ j, own' (.cell k j) = own (.cell k j))
    (blk1 : Keeps w (Fn own R) w' (Fn own' R) → ∀ k, bch k → BlkR E w' (Fn own' R) ρ' own' k (nth st'.blk k)) :
    Rel E R ρ' own' N st' a' w' ∧ Grow own own' w w' := by
  have g : Grow own own' w w' := by
    refine ⟨World.keptBut_mono (inT_mono fun B off hm => ?_) hk, fun y B t' hy => ?_⟩
    · obtain ⟨x, t, e, l, _⟩ := hT B off hm; exact ⟨_, t, e, l⟩
    · rcases hn y B t' hy with ⟨x, t, e, l⟩ | hn
      · exact .inr ⟨x, t, e, l⟩
      · exact .inl hn.1
  have hK := keeps_of (R := R) g
  refine ⟨⟨hsz, hdf, fun t => ?_, hρ', fun k => ?_, hi, ?_, ?_⟩, g⟩
  · by_cases c : chg t
    · exact fr1 hK t c
    · obtain ⟨e1, e2, e3⟩ := fr0 t c
      rw [e1, e2]
      have : (fun p => own' (.tmp t p)) = fun p => own (.tmp t p) := funext e3
      rw [this]
      exact (h.fr t).keep hK hρ fun p B t' _ j _ hh => kept_there hk hh
  · by_cases c : bch k
    · exact blk1 hK k c
    · obtain ⟨e1, e2, e3⟩ := blk0 k c
      rw [e1]
      refine (h.blk k).keep hK hk (fun B t hs off hm => ?_) hρ e2 e3
      obtain ⟨x, t', e, _, hc⟩ := hT B off hm
      have := h.inj _ _ _ _ _ hs e
      subst this
      exact c hc
  · intro x B t hx
    rcases hn x B t hx with ⟨y, t1, e, _⟩ | hn
    · have := h.out _ _ _ e
      exact ⟨Nat.lt_of_lt_of_le this.1 g.size, this.2⟩
    · exact ⟨hn.2, fun off hR => by have := h.low _ _ hR; omega⟩
  · intro B off hR
    exact Nat.lt_of_lt_of_le (h.low B off hR) g.size

def ownBlk (own : OI → Owner) (b : Nat) (s : Owner) (o : Nat → Owner) : OI → Owner
  | .self k => if k = b then s else own (.self k)
  | .cell k j => if k = b then o j else own (.cell k j)
  | y => own y

/-- the owners behind a step that changes the slots dst (to oV) and dis (to none) and block b's cells (to oC) -/
def ownUpd (own : OI → Owner) (dst dis : Option Nat) (oV : Owners) (b : Nat) (s : Owner) (oC : Nat → Owner) : OI → Owner :=
  ownBlk (ownSet (ownDis own dis) dst oV) b s oC

theorem nth_set {α : Type} (l : List α) (b k : Nat) (c : α) (hb : (nth l b).isSome) : nth (setN l b c) k = if k = b then some c else nth l k := by
  rw [nth_eq, setN_eq, nth_eq, List.getElem?_set]
  rw [nth_eq] at hb
  by_cases h : b = k
  · subst h
    have : b < l.length := by
      rcases Nat.lt_or_ge b l.length with h | h
      · exact h
      · simp [List.getElem?_eq_none h] at hb
    simp [this]
  · simp [h, Ne.symm h]

/-- One block of the call's own is written (or read with what it owns), one slot gets a value. -/
theorem Rel.write (h : Rel E R ρ own N st a w) {dst dis : Option Nat} {v : AV} {val : Value} {oV : Owners} {oC : Nat → Owner} {w' : World} {b B : Nat} {cells cells' : List AC} {rd : List Nat}
    (hb : nth st.blk b = some (.var cells)) (hB : nth ρ b = some B)
    (hd : ∀ d, dst = some d → d < N) (hk : w.keptBut w' (inT fun B' _ => B' = B))
    (src : OI → Prop) (hsrc : ∀ x, src x → (∃ t p, dis = some t ∧ x = .tmp t p) ∨ ∃ j, x = .cell b j)
    (hoV : ∀ p B t, oV p = some (B, t) → ∃ x, src x ∧ own x = some (B, t))
    (hoC : ∀ j B t, oC j = some (B, t) → ∃ x, src x ∧ own x = some (B, t))
    (hVV : ∀ p p' B t t', oV p = some (B, t) → oV p' = some (B, t') → p = p')
    (hCC : ∀ p p' B t t', oC p = some (B, t) → oC p' = some (B, t') → p = p')
    (hVC : ∀ p j B t t', oV p = some (B, t) → oC j = some (B, t') → dst = none)
    (hV : Keeps w (Fn own R) w' (Fn (ownUpd own dst dis oV b (own (.self b)) oC) R) → AVR E w' (Fn (ownUpd own dst dis oV b (own (.self b)) oC) R) ρ v val oV)
    (hC0 : ∀ j, cells'.length ≤ j → oC j = none)
    (hC : Keeps w (Fn own R) w' (Fn (ownUpd own dst dis oV b (own (.self b)) oC) R) → ∀ (j : Nat) (hj : j < cells'.length), ∃ u, cell w' B j = some u ∧ cold w' B j = false ∧ AR E w' (Fn (ownUpd own dst dis oV b (own (.self b)) oC) R) ρ cells'[j] u (oC j)) :
    After E R ρ own N w (st.apply dst ⟨v, dis, [(b, .var cells')], [], rd⟩) (a.put dst val) w' := by
  have hself : own (.self b) = some (B, 0) := by
    have := h.blk b
    rw [hb] at this
    obtain ⟨B', h1, h2, _⟩ := this
    rw [hB] at h1; cases h1; exact h2
  have hcase : ∀ y B t', ownUpd own dst dis oV b (own (.self b)) oC y = some (B, t') →
      (∃ d p, dst = some d ∧ y = .tmp d p ∧ oV p = some (B, t')) ∨ (∃ j, y = .cell b j ∧ oC j = some (B, t')) ∨ (own y = some (B, t') ∧ ¬ src y ∧ ∀ j, y ≠ .cell b j) := by
    intro y B t' hy
    cases y with
    | tmp t p =>
      simp only [ownUpd, ownBlk, ownSet] at hy
      split at hy
      · rename_i e; exact .inl ⟨t, p, e, rfl, hy⟩
      · refine .inr (.inr ⟨ownDis_sub hy, fun hs => ?_, fun j e => by cases e⟩)
        rcases hsrc _ hs with ⟨t', p', e1, e2⟩ | ⟨j, e⟩
        · injection e2 with e2 e3
          subst e2
          simp [ownDis, e1] at hy
        · cases e
    | self k =>
      simp only [ownUpd, ownBlk] at hy
      refine .inr (.inr ⟨?_, fun hs => ?_, fun j e => by cases e⟩)
      · split at hy
        · rename_i e; subst e; exact hy
        · exact hy
      · rcases hsrc _ hs with ⟨t', p', e1, e2⟩ | ⟨j, e⟩
        · cases e2
        · cases e
    | cell k j =>
      simp only [ownUpd, ownBlk] at hy
      split at hy
      · rename_i e; subst e; exact .inr (.inl ⟨j, rfl, hy⟩)
      · rename_i e
        refine .inr (.inr ⟨hy, fun hs => ?_, fun j' e' => ?_⟩)
        · rcases hsrc _ hs with ⟨t', p', e1, e2⟩ | ⟨j', e2⟩
          · cases e2
          · injection e2 with e2; exact e e2
        · injection e' with e'; exact e e'
  refine ⟨ρ, _, fun _ _ h => h, h.gen (own' := ownUpd own dst dis oV b (own (.self b)) oC) (fun B' _ => B' = B) (fun t => dst = some t ∨ dis = some t) (fun k => k = b) hk ?_ ?_ ?_ (by rw [size_put]; exact h.size) (by rw [defers_put]; exact h.defers) ?_ ?_ ?_ (fun _ _ h => h) ?_ ?_⟩
  · intro B' off e
    subst e
    exact ⟨.self b, 0, hself, Nat.zero_le _, rfl⟩
  · intro y B t' hy
    rcases hcase y B t' hy with ⟨d, p, _, rfl, hp⟩ | ⟨j, rfl, hj⟩ | ⟨hy, _, _⟩
    · obtain ⟨x, _, hx⟩ := hoV p B t' hp; exact .inl ⟨x, t', hx, Nat.le_refl _⟩
    · obtain ⟨x, _, hx⟩ := hoC j B t' hj; exact .inl ⟨x, t', hx, Nat.le_refl _⟩
    · exact .inl ⟨y, t', hy, Nat.le_refl _⟩
  · intro x y B t t' hx hy
    rcases hcase x B t hx with ⟨d, p, e, rfl, hp⟩ | ⟨j, rfl, hj⟩ | ⟨hx, nx, cx⟩ <;> rcases hcase y B t' hy with ⟨d', p', e', rfl, hp'⟩ | ⟨j', rfl, hj'⟩ | ⟨hy, ny, cy⟩
    · rw [e] at e'; cases e'; rw [hVV p p' B t t' hp hp']
    · rw [hVC p j' B t t' hp hj'] at e; cases e
    · obtain ⟨z, hz, ez⟩ := hoV p B t hp
      have := h.inj _ _ _ _ _ ez hy; subst this; exact absurd hz ny
    · rw [hVC p' j B t' t hp' hj] at e'; cases e'
    · rw [hCC j j' B t t' hj hj']
    · obtain ⟨z, hz, ez⟩ := hoC j B t hj
      have := h.inj _ _ _ _ _ ez hy; subst this; exact absurd hz ny
    · obtain ⟨z, hz, ez⟩ := hoV p' B t' hp'
      have := h.inj _ _ _ _ _ ez hx; subst this; exact absurd hz nx
    · obtain ⟨z, hz, ez⟩ := hoC j' B t' hj'
      have := h.inj _ _ _ _ _ ez hx; subst this; exact absurd hz nx
    · exact h.inj _ _ _ _ _ hx hy
  · intro t hc
    have h1 : dst ≠ some t := fun e => hc (.inl e)
    have h2 : dis ≠ some t := fun e => hc (.inr e)
    refine ⟨by simp only [St.apply, get_put, get_disT, h1, h2, if_false], ?_, fun p => by simp only [ownUpd, ownBlk, ownSet, ownDis, h1, h2, if_false]⟩
    rw [getD_put a dst val t (by rw [h.size]; exact hd)]
    simp only [h1, if_false]
  · intro hK t hc
    have hget : get (st.apply dst ⟨v, dis, [(b, .var cells')], [], rd⟩).fr t = if dst = some t then v else if dis = some t then (get st.fr t).dis else get st.fr t := by
      simp only [St.apply, get_put, get_disT]
    rw [hget, getD_put a dst val t (by rw [h.size]; exact hd)]
    by_cases e : dst = some t
    · have := hV hK
      subst e
      simpa [ownUpd, ownBlk, ownSet] using this
    · have e2 : dis = some t := hc.resolve_left e
      simp only [e, if_false, e2, if_true]
      have hh := ((h.fr t).keep hK (fun _ _ h => h) fun p B t' _ j _ hh => kept_there hk hh).dis
      rw [e2] at hh
      simpa [ownUpd, ownBlk, ownSet, ownDis, e] using hh
  · simp only [St.apply, writes, app_eq, List.append_nil, setN_eq, List.length_set]; exact h.rho
  · intro k hkb
    refine ⟨?_, by simp only [ownUpd, ownBlk, hkb, if_false, ownSet, ownDis], fun j => by simp only [ownUpd, ownBlk, hkb, if_false, ownSet, ownDis]⟩
    simp only [St.apply, writes, app_eq, List.append_nil]
    rw [nth_set _ _ _ _ (by rw [hb]; rfl)]
    simp [hkb]
  · intro hK k hkb
    subst hkb
    simp only [St.apply, writes, app_eq, List.append_nil]
    rw [nth_set _ _ _ _ (by rw [hb]; rfl)]
    simp only [if_true]
    refine ⟨B, hB, by simp only [ownUpd, ownBlk, if_true]; exact hself, fun j hj => by simp only [ownUpd, ownBlk, if_true]; exact hC0 j hj, fun j hj => ?_⟩
    obtain ⟨u, h1, h2, h3⟩ := hC hK j hj
    exact ⟨u, h1, h2, by simpa only [ownUpd, ownBlk, if_true] using h3⟩

theorem nth_app_lt {α : Type} (l r : List α) (k : Nat) (h : k < l.length) : nth (l ++ r) k = nth l k := by
  rw [nth_eq, nth_eq, List.getElem?_append_left h]
theorem nth_app_len {α : Type} (l : List α) (x : α) : nth (l ++ [x]) l.length = some x := by
  rw [nth_eq]; simp
theorem nth_lt {α : Type} {l : List α} {k : Nat} {x : α} (h : nth l k = some x) : k < l.length := by
  rw [nth_eq] at h
  rcases Nat.lt_or_ge k l.length with h' | h'
  · exact h'
  · simp [List.getElem?_eq_none h'] at h
theorem nth_ge {α : Type} {l : List α} {k : Nat} (h : l.length ≤ k) : nth l k = none := by
  rw [nth_eq]; exact List.getElem?_eq_none h

/-- A new block of the call's own. -/
theorem Rel.make (h : Rel E R ρ own N st a w) {dst dis : Option Nat} {w' : World} {B : Nat} {oC : Nat → Owner} {cells : List AC} {rd : List Nat}
    (hd : ∀ d, dst = some d → d < N) (hk : w.keptBut w' (inT fun _ _ => False)) (hB1 : w.heap.size ≤ B) (hB2 : B < w'.heap.size)
    (hoC : ∀ j B t, oC j = some (B, t) → ∃ x p, dis = some x ∧ own (.tmp x p) = some (B, t))
    (hCC : ∀ p p' B t t', oC p = some (B, t) → oC p' = some (B, t') → p = p')
    (hC0 : ∀ j, cells.length ≤ j → oC j = none)
    (hC : ∀ F', Keeps w (Fn own R) w' F' → (∀ B' off, F' B' off → Fn own R B' off ∨ B' = B) → ∀ (j : Nat) (hj : j < cells.length), ∃ u, cell w' B j = some u ∧ cold w' B j = false ∧ AR E w' F' (ρ ++ [B]) cells[j] u (oC j)) :
    After E R ρ own N w (st.apply dst ⟨.one (.ptr (lenN st.blk) 0), dis, [], [.var cells], rd⟩) (a.put dst (.pointer (some ⟨B, 0, none⟩))) w' := by
  have hlen := lenN_eq st.blk
  have hρl : ρ.length = st.blk.length := h.rho
  have hnb := h.blk st.blk.length
  rw [nth_ge (Nat.le_refl _)] at hnb
  have hcase : ∀ y B' t', ownUpd own dst dis (fun _ => none) st.blk.length (some (B, 0)) oC y = some (B', t') →
      (y = .self st.blk.length ∧ B' = B ∧ t' = 0) ∨ (∃ j, y = .cell st.blk.length j ∧ oC j = some (B', t')) ∨ (own y = some (B', t') ∧ (∀ x p, dis = some x → y ≠ .tmp x p) ∧ (∀ j, y ≠ .cell st.blk.length j)) := by
    intro y B' t' hy
    cases y with
    | tmp t p =>
      simp only [ownUpd, ownBlk, ownSet] at hy
      split at hy
      · cases hy
      · refine .inr (.inr ⟨ownDis_sub hy, fun x q e1 e2 => ?_, fun j e => by cases e⟩)
        injection e2 with e2 e3
        subst e2
        simp [ownDis, e1] at hy
    | self k =>
      simp only [ownUpd, ownBlk] at hy
      split at hy
      · rename_i e; subst e; cases hy; exact .inl ⟨rfl, rfl, rfl⟩
      · exact .inr (.inr ⟨hy, fun x q e1 e2 => (by cases e2), fun j e => (by cases e)⟩)
    | cell k j =>
      simp only [ownUpd, ownBlk] at hy
      split at hy
      · rename_i e; subst e; exact .inr (.inl ⟨j, rfl, hy⟩)
      · rename_i e
        exact .inr (.inr ⟨hy, fun x q e1 e2 => (by cases e2), fun j e2 => (by injection e2 with e2; exact e e2)⟩)
  have hlt : ∀ y B' t', own y = some (B', t') → B' < w.heap.size := fun y B' t' e => (h.out _ _ _ e).1
  refine ⟨ρ ++ [B], _, fun b B' hb => by rw [nth_app_lt _ _ _ (nth_lt hb)]; exact hb, h.gen (own' := ownUpd own dst dis (fun _ => none) st.blk.length (some (B, 0)) oC) (fun _ _ => False) (fun t => dst = some t ∨ dis = some t) (fun k => k = st.blk.length) hk (fun _ _ h => h.elim) ?_ ?_ (by rw [size_put]; exact h.size) (by rw [defers_put]; exact h.defers) ?_ ?_ ?_ ?_ ?_ ?_⟩
  · intro y B' t' hy
    rcases hcase y B' t' hy with ⟨_, rfl, _⟩ | ⟨j, _, hj⟩ | ⟨hy, _⟩
    · exact .inr ⟨hB1, hB2⟩
    · obtain ⟨x, p, _, e⟩ := hoC j B' t' hj; exact .inl ⟨_, t', e, Nat.le_refl _⟩
    · exact .inl ⟨y, t', hy, Nat.le_refl _⟩
  · intro x y B' t t' hx hy
    rcases hcase x B' t hx with ⟨rfl, rfl, rfl⟩ | ⟨j, rfl, hj⟩ | ⟨hx2, nx, cx⟩ <;> rcases hcase y B' t' hy with ⟨rfl, e1, e2⟩ | ⟨j', rfl, hj'⟩ | ⟨hy2, ny, cy⟩
    · rfl
    · obtain ⟨z, p, _, e⟩ := hoC j' _ t' hj'; have := hlt _ _ _ e; omega
    · have := hlt _ _ _ hy2; omega
    · obtain ⟨z, p, _, e⟩ := hoC j _ t hj; have := hlt _ _ _ e; omega
    · rw [hCC j j' B' t t' hj hj']
    · obtain ⟨z, p, ez, e⟩ := hoC j B' t hj
      have := h.inj _ _ _ _ _ e hy2; subst this; exact absurd rfl (ny z p ez)
    · have := hlt _ _ _ hx2; omega
    · obtain ⟨z, p, ez, e⟩ := hoC j' B' t' hj'
      have := h.inj _ _ _ _ _ e hx2; subst this; exact absurd rfl (nx z p ez)
    · exact h.inj _ _ _ _ _ hx2 hy2
  · intro t hc
    have h1 : dst ≠ some t := fun e => hc (.inl e)
    have h2 : dis ≠ some t := fun e => hc (.inr e)
    refine ⟨by simp only [St.apply, get_put, get_disT, h1, h2, if_false], ?_, fun p => by simp only [ownUpd, ownBlk, ownSet, ownDis, h1, h2, if_false]⟩
    rw [getD_put a dst _ t (by rw [h.size]; exact hd)]
    simp only [h1, if_false]
  · intro hK t hc
    have hget : get (st.apply dst ⟨.one (.ptr (lenN st.blk) 0), dis, [], [.var cells], rd⟩).fr t = if dst = some t then .one (.ptr (lenN st.blk) 0) else if dis = some t then (get st.fr t).dis else get st.fr t := by
      simp only [St.apply, get_put, get_disT]
    rw [hget, getD_put a dst _ t (by rw [h.size]; exact hd)]
    by_cases e : dst = some t
    · subst e
      simp only [if_true]
      refine .one _ _ _ ?_ fun p _ => by simp [ownUpd, ownBlk, ownSet]
      have hnone : ownUpd own (some t) dis (fun _ => none) st.blk.length (some (B, 0)) oC (.tmp t []) = none := by simp [ownUpd, ownBlk, ownSet]
      rw [hnone]
      exact .ptr _ _ _ (by rw [hlen, ← hρl]; exact nth_app_len ρ B)
    · have e2 : dis = some t := hc.resolve_left e
      simp only [e, if_false, e2, if_true]
      have hh := ((h.fr t).keep hK (ρ' := ρ ++ [B]) (fun b B' hb => by rw [nth_app_lt _ _ _ (nth_lt hb)]; exact hb) fun p B t' _ j _ hh => kept_there hk hh).dis
      rw [e2] at hh
      simpa [ownUpd, ownBlk, ownSet, ownDis, e] using hh
  · simp only [St.apply, writes, app_eq, List.length_append, List.length_singleton, hρl]
  · intro b B' hb
    rw [nth_app_lt _ _ _ (nth_lt hb)]; exact hb
  · intro k hkb
    refine ⟨?_, by simp only [ownUpd, ownBlk, hkb, if_false, ownSet, ownDis], fun j => by simp only [ownUpd, ownBlk, hkb, if_false, ownSet, ownDis]⟩
    simp only [St.apply, writes, app_eq]
    by_cases hk' : k < st.blk.length
    · rw [nth_app_lt _ _ _ hk']
    · rw [nth_ge (l := st.blk) (by omega), nth_ge]
      simp; omega
  · intro hK k hkb
    subst hkb
    simp only [St.apply, writes, app_eq]
    rw [nth_app_len]
    refine ⟨B, by rw [← hρl]; exact nth_app_len ρ B, by simp only [ownUpd, ownBlk, if_true], fun j hj => by simp only [ownUpd, ownBlk, if_true]; exact hC0 j hj, fun j hj => ?_⟩
    refine Exists.elim (hC _ hK (fun B' off hF => ?_) j hj) fun u ⟨h1, h2, h3⟩ => ?_
    rotate_left
    · exact ⟨u, h1, h2, by simpa only [ownUpd, ownBlk, if_true] using h3⟩
    · rcases hF with hR | ⟨x, t, hx, hl⟩
      · exact .inl (.inl hR)
      · rcases hcase x B' t hx with ⟨_, e, _⟩ | ⟨j', _, hj'⟩ | ⟨hx, _⟩
        · exact .inr e
        · obtain ⟨z, p, _, e⟩ := hoC j' B' t hj'; exact .inl (.inr ⟨_, t, e, hl⟩)
        · exact .inl (.inr ⟨x, t, hx, hl⟩)

end Go.Abs
