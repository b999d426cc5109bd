/-
  A call: what the callee is handed, what it hands back.
-/
import Derived.Test.YtpafnokcmhlbgaaA17
namespace Go.Abs

variable {E : Env} {P : Program} {R : Places} {ρ : List Nat} {own : OI → Owner} {N : Nat} {st : St} {a : Act} {w : World} {F : Places}

theorem BlkR.less {F' : Places} (hF : ∀ B off, F' B off → F B off) {k : Nat} {b : Option Block} (h : BlkR E w F ρ own k b) : BlkR E w F' ρ own k b := by
  cases b with
  | none => exact h
  | some b => cases b with
    | dead => exact h
    | fro e rows => exact ⟨h.1, h.2.1, h.2.2.keep ⟨fun _ _ _ _ _ => rfl, fun _ _ _ hc hn => ⟨hc, fun hf => hn (hF _ _ hf)⟩, fun _ _ h => h⟩ fun _ h => h⟩
    | var cells =>
      obtain ⟨B, h1, h2, h3, h4⟩ := h
      refine ⟨B, h1, h2, h3, fun j hj => ?_⟩
      obtain ⟨v, k1, k2, k3⟩ := h4 j hj
      exact ⟨v, k1, k2, k3.less hF⟩
    | arr e rows =>
      rcases h with h | ⟨B, te, h1, h2, h3, h4, h5, h7, h6⟩
      · exact .inl h
      · refine .inr ⟨B, te, h1, h2, h3, h4, h5, h7, fun i hi => ?_⟩
        obtain ⟨v, g1, g2, g3⟩ := h6 i hi
        exact ⟨v, g1, g2, g3.keep ⟨fun _ _ _ _ _ => rfl, fun _ _ _ hc hn => ⟨hc, fun hf => hn (hF _ _ hf)⟩, fun _ _ h => h⟩⟩

/-- less is owned -/
theorem Rel.sub (h : Rel E R ρ own N st a w) {own' : OI → Owner} {st' : St} (hs : ∀ x, own' x = own x ∨ own' x = none) (hfr : ∀ t, AVR E w (Fn own R) ρ (get st'.fr t) (a.tmps.getD t undef) (fun p => own' (.tmp t p)))
    (hl : st'.blk.length = st.blk.length) (hblk : ∀ k, BlkR E w (Fn own R) ρ own' k (nth st'.blk k)) : Rel E R ρ own' N st' a w := by
  have hsome : ∀ x B t, own' x = some (B, t) → own x = some (B, t) := fun x B t e => by
    rcases hs x with h | h
    · rw [← h]; exact e
    · rw [h] at e; cases e
  have hF : ∀ B off, Fn own' R B off → Fn own R B off := by
    rintro B off (hR | ⟨x, t, hx, ht⟩)
    · exact .inl hR
    · exact .inr ⟨x, t, hsome _ _ _ hx, ht⟩
  exact ⟨h.size, h.defers, fun t => (hfr t).less hF, h.rho.trans hl.symm, fun k => (hblk k).less hF, fun x y B t t' hx hy => h.inj _ _ _ _ _ (hsome _ _ _ hx) (hsome _ _ _ hy), fun x B t hx => h.out _ _ _ (hsome _ _ _ hx), h.low⟩

theorem Grow.of_sub {own' : OI → Owner} (hs : ∀ x, own' x = own x ∨ own' x = none) : Grow own own' w w :=
  .refl _ _ _ fun x B t hx => ⟨x, t, (by
    rcases hs x with h | h
    · rw [← h]; exact hx
    · rw [h] at hx; cases hx), Nat.le_refl _⟩

/- PATTERNS -/

theorem Pat.proj_rel {p : Pat} {c : AC} {v : Value} {o : Owner} (h : AR E w F ρ c v o) (hp : p.ok c = true) : ∃ o', (o' = o ∨ o' = none) ∧ AR E w F ρ (p.proj c) v o' := by
  cases p with
  | int k =>
    cases h <;> simp [Pat.ok] at hp
    rw [same_of hp]
    exact ⟨_, .inl rfl, .int _ _⟩
  | bool => cases h <;> simp [Pat.ok] at hp; exact ⟨_, .inl rfl, .bool _⟩
  | str => cases h <;> simp [Pat.ok] at hp; exact ⟨_, .inl rfl, .str _⟩
  | sl own e =>
    cases h with
    | sl e' rows v h =>
      simp [Pat.ok] at hp
      obtain ⟨h1, h2⟩ := hp
      subst h1; subst h2
      exact ⟨none, .inl rfl, .sl _ _ _ h⟩
    | full e' rows a n h =>
      simp [Pat.ok] at hp
      subst hp
      cases own with
      | true => exact ⟨none, .inl rfl, .full _ _ _ _ h⟩
      | false => exact ⟨none, .inl rfl, .sl _ _ _ h⟩
    | own e' rows te B off len cap h he hl hs =>
      simp [Pat.ok] at hp
      subst hp
      cases own with
      | true => exact ⟨_, .inl rfl, .own _ _ te _ _ _ _ h he hl hs⟩
      | false => exact ⟨none, .inr rfl, .sl _ _ _ h⟩
    | nils =>
      cases own with
      | true => exact ⟨none, .inl rfl, .full _ _ _ _ (.empty _ _ _)⟩
      | false => exact ⟨none, .inl rfl, .sl _ _ _ (.empty _ _ _)⟩
    | _ => simp [Pat.ok] at hp
  | ptr b o =>
    cases h <;> simp [Pat.ok] at hp
    obtain ⟨rfl, rfl⟩ := hp
    rename_i B h
    exact ⟨_, .inl rfl, .ptr _ _ _ h⟩
  | nilp => cases h <;> simp [Pat.ok] at hp; exact ⟨_, .inl rfl, .nilp⟩
  | nilf => cases h <;> simp [Pat.ok] at hp; exact ⟨_, .inl rfl, .nilf⟩
  | msl e b =>
    cases h with
    | msl e' b' n te B cap hB he h0 hn hm hs =>
      simp only [Pat.ok, Bool.and_eq_true] at hp
      rw [Nat.eq_of_beq_eq_true hp.1, Nat.eq_of_beq_eq_true hp.2]
      exact ⟨none, .inl rfl, .msl e' b' n te B cap hB he h0 hn hm hs⟩
    | mnil e' b' v' =>
      simp only [Pat.ok, Bool.and_eq_true] at hp
      rw [Nat.eq_of_beq_eq_true hp.1, Nat.eq_of_beq_eq_true hp.2]
      exact ⟨none, .inl rfl, .mnil e' b' v'⟩
    | _ => simp [Pat.ok] at hp
  | win e b =>
    cases h with
    | win e' b' lo n c te B off cap hB he hn hc hoff hs =>
      simp only [Pat.ok, Bool.and_eq_true] at hp
      rw [Nat.eq_of_beq_eq_true hp.1, Nat.eq_of_beq_eq_true hp.2]
      exact ⟨none, .inl rfl, .win e' b' lo n c te B off cap hB he hn hc hoff hs⟩
    | _ => simp [Pat.ok] at hp
  | arrp e => cases h <;> simp [Pat.ok] at hp
  | deadp => cases h <;> simp [Pat.ok] at hp

theorem acAt_get : ∀ {l : List AC} {i : Nat} (h : i < l.length), acAt l i = l[i]
  | _ :: _, 0, _ => rfl
  | _ :: r, i + 1, h => acAt_get (l := r) (i := i) (by simpa using h)
theorem avAt_get : ∀ {l : List AV} {i : Nat} (h : i < l.length), avAt l i = l[i]
  | _ :: _, 0, _ => rfl
  | _ :: r, i + 1, h => avAt_get (l := r) (i := i) (by simpa using h)
theorem blkAt_get : ∀ {l : List Block} {i : Nat} (h : i < l.length), blkAt l i = l[i]
  | _ :: _, 0, _ => rfl
  | _ :: r, i + 1, h => blkAt_get (l := r) (i := i) (by simpa using h)

theorem okL_some : ∀ {ps : List Pat} {l : List AC}, okL ps l = true → ps.length = l.length ∧ ∀ (i : Nat) (h1 : i < ps.length) (h2 : i < l.length), ps[i].ok l[i] = true
  | [], [], _ => by simp
  | [], _ :: _, h => by simp [okL] at h
  | _ :: _, [], h => by simp [okL] at h
  | p :: ps, c :: r, h => by
    simp only [okL, Bool.and_eq_true] at h
    obtain ⟨g1, g2⟩ := okL_some h.2
    refine ⟨by simp [g1], fun i h1 h2 => ?_⟩
    cases i with
    | zero => exact h.1
    | succ i => exact g2 i (by simpa using h1) (by simpa using h2)

theorem projL_some : ∀ {ps : List Pat} {l : List AC} {k : Nat}, (projL ps l k).length = ps.length ∧ ∀ (i : Nat) (h1 : i < ps.length) (h2 : i < (projL ps l k).length), (projL ps l k)[i] = ps[i].proj (acAt l (k + i))
  | [], l, k => by simp [projL]
  | p :: ps, l, k => by
    obtain ⟨g1, g2⟩ := projL_some (ps := ps) (l := l) (k := k + 1)
    refine ⟨by simp [projL, g1], fun i h1 h2 => ?_⟩
    cases i with
    | zero => rfl
    | succ i =>
      have := g2 i (by simpa using h1) (by simpa [projL] using h2)
      simp only [projL, List.getElem_cons_succ, this]
      congr 2; omega

theorem okVs_some : ∀ {ps : List PV} {l : List AV}, okVs ps l = true → ps.length = l.length ∧ ∀ (i : Nat) (h1 : i < ps.length) (h2 : i < l.length), ps[i].ok l[i] = true
  | [], [], _ => by simp
  | [], _ :: _, h => by simp [okVs] at h
  | _ :: _, [], h => by simp [okVs] at h
  | p :: ps, c :: r, h => by
    simp only [okVs, Bool.and_eq_true] at h
    obtain ⟨g1, g2⟩ := okVs_some h.2
    refine ⟨by simp [g1], fun i h1 h2 => ?_⟩
    cases i with
    | zero => exact h.1
    | succ i => exact g2 i (by simpa using h1) (by simpa using h2)

theorem projVs_some : ∀ {ps : List PV} {l : List AV} {k : Nat}, (projVs ps l k).length = ps.length ∧ ∀ (i : Nat) (h1 : i < ps.length) (h2 : i < (projVs ps l k).length), (projVs ps l k)[i] = ps[i].proj (avAt l (k + i))
  | [], l, k => by simp [projVs]
  | p :: ps, l, k => by
    obtain ⟨g1, g2⟩ := projVs_some (ps := ps) (l := l) (k := k + 1)
    refine ⟨by simp [projVs, g1], fun i h1 h2 => ?_⟩
    cases i with
    | zero => rfl
    | succ i =>
      have := g2 i (by simpa using h1) (by simpa [projVs] using h2)
      simp only [projVs, List.getElem_cons_succ, this]
      congr 2; omega

theorem okBs_some : ∀ {ps : List (List Pat)} {l : List Block}, okBs ps l = true → ps.length = l.length ∧ ∀ (i : Nat) (h1 : i < ps.length) (h2 : i < l.length), okB1 ps[i] l[i] = true
  | [], [], _ => by simp
  | [], _ :: _, h => by simp [okBs] at h
  | _ :: _, [], h => by simp [okBs] at h
  | p :: ps, c :: r, h => by
    simp only [okBs, Bool.and_eq_true] at h
    obtain ⟨g1, g2⟩ := okBs_some h.2
    refine ⟨by simp [g1], fun i h1 h2 => ?_⟩
    cases i with
    | zero => exact h.1
    | succ i => exact g2 i (by simpa using h1) (by simpa using h2)

theorem projBs_some : ∀ {ps : List (List Pat)} {l : List Block} {k : Nat}, (projBs ps l k).length = ps.length ∧ ∀ (i : Nat) (h1 : i < ps.length) (h2 : i < (projBs ps l k).length), (projBs ps l k)[i] = projB1 ps[i] (blkAt l (k + i))
  | [], l, k => by simp [projBs]
  | p :: ps, l, k => by
    obtain ⟨g1, g2⟩ := projBs_some (ps := ps) (l := l) (k := k + 1)
    refine ⟨by simp [projBs, g1], fun i h1 h2 => ?_⟩
    cases i with
    | zero => rfl
    | succ i =>
      have := g2 i (by simpa using h1) (by simpa [projBs] using h2)
      simp only [projBs, List.getElem_cons_succ, this]
      congr 2; omega

theorem projB1_var {p : List Pat} {cells : List AC} (h : okL p cells = true) : projB1 p (.var cells) = .var (projL p cells 0) := by
  unfold projB1
  split
  · cases cells with
    | nil => simp [okL] at h
    | cons c r => simp [okL, Pat.ok] at h
  · cases cells with
    | nil => simp [okL] at h
    | cons c r => simp [okL, Pat.ok] at h
  · rfl

theorem projB1_arr {p : List Pat} {e : TypeId} {rows : Rows} (h : okB1 p (.arr e rows) = true) : projB1 p (.arr e rows) = .arr e rows := by
  dsimp only [okB1] at h
  split at h
  · rw [Nat.eq_of_beq_eq_true h]; rfl
  · cases h

theorem projB1_dead {p : List Pat} (h : okB1 p .dead = true) : projB1 p .dead = .dead := by
  dsimp only [okB1] at h
  split at h
  · rfl
  · cases h

theorem projL_rel {ps : List Pat} {l : List AC} {g : Nat → Value} {o : Nat → Owner} (hok : okL ps l = true) (h : ∀ (i : Nat) (hi : i < l.length), AR E w F ρ l[i] (g i) (o i)) :
    ∃ o' : Nat → Owner, (∀ i, o' i = o i ∨ o' i = none) ∧ (projL ps l 0).length = l.length ∧ (∀ i, l.length ≤ i → o' i = none) ∧ ∀ (i : Nat) (hi : i < (projL ps l 0).length), AR E w F ρ (projL ps l 0)[i] (g i) (o' i) := by
  obtain ⟨h1, h2⟩ := okL_some hok
  obtain ⟨h3, h4⟩ := projL_some (ps := ps) (l := l) (k := 0)
  have : ∀ i, ∃ o', (o' = o i ∨ o' = none) ∧ (l.length ≤ i → o' = none) ∧ ∀ (hi : i < (projL ps l 0).length), AR E w F ρ (projL ps l 0)[i] (g i) o' := by
    intro i
    by_cases hi : i < l.length
    · obtain ⟨o', k1, k2⟩ := Pat.proj_rel (h i hi) (h2 i (by omega) hi)
      refine ⟨o', k1, fun h => by omega, fun hi' => ?_⟩
      rw [h4 i (by omega) hi', Nat.zero_add, acAt_get hi]
      exact k2
    · exact ⟨none, .inr rfl, fun _ => rfl, fun hi' => by omega⟩
  obtain ⟨o', ho⟩ := Classical.skolem.1 this
  exact ⟨o', fun i => (ho i).1, by omega, fun i => (ho i).2.1, fun i => (ho i).2.2⟩

theorem PV.proj_rel {p : PV} {x : AV} {v : Value} {o : Owners} (h : AVR E w F ρ x v o) (hp : p.ok x = true) : ∃ o' : Owners, (∀ q, o' q = o q ∨ o' q = none) ∧ AVR E w F ρ (p.proj x) v o' := by
  cases p with
  | one p =>
    cases h with
    | one c v o h ho =>
      obtain ⟨o', k1, k2⟩ := Pat.proj_rel h hp
      refine ⟨fun q => match q with | [] => o' | _ => none, fun q => ?_, .one _ _ _ k2 fun q hq => ?_⟩
      · cases q with
        | nil => exact k1
        | cons => exact .inr rfl
      · cases q with
        | nil => exact absurd rfl hq
        | cons => rfl
    | _ => simp [PV.ok] at hp
  | agg ps =>
    cases h with
    | agg l g o h ho =>
      obtain ⟨o', k1, k2, k3, k4⟩ := projL_rel (o := fun i => o [i]) hp h
      have h5 : AVR E w F ρ (PV.proj (.agg ps) (.agg l)) (.agg ((List.range l.length).map g).toArray) (fun q => match q with | [i] => o' i | _ => none) := by
        rw [← k2]
        refine .agg _ g _ (fun i hi => k4 i hi) fun q hq => ?_
        match q, hq with
        | [], _ => rfl
        | [i], hq =>
          refine k3 i ?_
          rcases Nat.lt_or_ge i (projL ps l 0).length with h | h
          · exact absurd rfl (hq i h)
          · omega
        | _ :: _ :: _, _ => rfl
      refine ⟨_, fun q => ?_, h5⟩
      match q with
      | [] => exact .inr rfl
      | [i] => exact k1 i
      | _ :: _ :: _ => exact .inr rfl
    | _ => simp [PV.ok] at hp

/-- what is handed back, as the signature has it -/
theorem Rel.proj {vs : List AV} {bs : List Block} {rs : List Value} (h : Rel E R ρ own N ⟨zipFr vs 0, bs⟩ ⟨rs.toArray, []⟩ w) (hl : rs.length = vs.length) {sg : Sig} (hok : sg.ok (vs, bs) = true) :
    ∃ own', (∀ x, own' x = own x ∨ own' x = none) ∧ (projVs sg.res vs 0).length = rs.length ∧ (projBs sg.blks bs 0).length = bs.length ∧ Rel E R ρ own' N ⟨zipFr (projVs sg.res vs 0) 0, projBs sg.blks bs 0⟩ ⟨rs.toArray, []⟩ w := by
  simp only [Sig.ok, Bool.and_eq_true] at hok
  obtain ⟨hv, hb⟩ := hok
  obtain ⟨v1, v2⟩ := okVs_some hv
  obtain ⟨v3, v4⟩ := projVs_some (ps := sg.res) (l := vs) (k := 0)
  obtain ⟨b1, b2⟩ := okBs_some hb
  obtain ⟨b3, b4⟩ := projBs_some (ps := sg.blks) (l := bs) (k := 0)
  have hvs : ∀ i, ∃ o : Owners, (∀ q, o q = own (.tmp i q) ∨ o q = none) ∧ (vs.length ≤ i → ∀ q, o q = none) ∧ ∀ (h1 : i < (projVs sg.res vs 0).length) (h2 : i < rs.length), AVR E w (Fn own R) ρ (projVs sg.res vs 0)[i] rs[i] o := by
    intro i
    by_cases hi : i < vs.length
    · have hx := zip_get (o := fun i p => own (.tmp i p)) hl.symm h.fr i hi (by omega)
      obtain ⟨o, k1, k2⟩ := PV.proj_rel hx (v2 i (by omega) hi)
      refine ⟨o, k1, fun h => by omega, fun g1 g2 => ?_⟩
      rw [v4 i (by omega) g1, Nat.zero_add, avAt_get hi]
      exact k2
    · exact ⟨fun _ => none, fun _ => .inr rfl, fun _ _ => rfl, fun g1 => by omega⟩
  obtain ⟨oV, hoV⟩ := Classical.skolem.1 hvs
  have hbs : ∀ k, ∃ o : Nat → Owner, (∀ j, o j = own (.cell k j) ∨ o j = none) ∧ ∀ own', own' (.self k) = own (.self k) → (∀ j, own' (.cell k j) = o j) → BlkR E w (Fn own R) ρ own' k (nth (projBs sg.blks bs 0) k) := by
    intro k
    have hk := h.blk k
    dsimp only at hk
    by_cases hi : k < bs.length
    · have e2 := b2 k (by omega) hi
      have hp : k < (projBs sg.blks bs 0).length := by omega
      have hnp : nth (projBs sg.blks bs 0) k = some (projB1 sg.blks[k] bs[k]) := by
        rw [nth_eq, List.getElem?_eq_getElem hp, b4 k (by omega) hp, Nat.zero_add, blkAt_get hi]
      rw [nth_eq, List.getElem?_eq_getElem hi] at hk
      generalize bs[k] = bk at e2 hk hnp
      cases bk with
      | fro e rows => cases e2
      | dead =>
        rw [projB1_dead e2] at hnp
        refine ⟨fun _ => none, fun _ => .inr rfl, fun own' hs hc => ?_⟩
        rw [hnp]
        exact ⟨hs.trans hk.1, hc⟩
      | arr e rows =>
        rw [projB1_arr e2] at hnp
        refine ⟨fun _ => none, fun _ => .inr rfl, fun own' hs hc => ?_⟩
        rw [hnp]
        rcases hk with ⟨h1, h2, h3⟩ | ⟨B, te, h1, h2, h3, h4, h5, h7, h6⟩
        · exact .inl ⟨h1, hs.trans h2, hc⟩
        · exact .inr ⟨B, te, h1, hs.trans h2, hc, h4, h5, h7, h6⟩
      | var cells =>
      rw [projB1_var e2] at hnp
      obtain ⟨B, h1, h2, h3, h4⟩ := hk
      have h4' : ∀ j, ∃ v, ∀ (hj : j < cells.length), cell w B j = some v ∧ cold w B j = false ∧ AR E w (Fn own R) ρ cells[j] v (own (.cell k j)) := by
        intro j
        by_cases hj : j < cells.length
        · obtain ⟨v, hv⟩ := h4 j hj; exact ⟨v, fun _ => hv⟩
        · exact ⟨undef, fun hj' => absurd hj' hj⟩
      obtain ⟨g, hg⟩ := Classical.skolem.1 h4'
      obtain ⟨o', k1, k2, k3, k4⟩ := projL_rel (o := fun j => own (.cell k j)) e2 (fun j hj => (hg j hj).2.2)
      refine ⟨o', k1, fun own' hs hc => ?_⟩
      rw [hnp]
      refine ⟨B, h1, hs.trans h2, fun j hj => (hc j).trans (k3 j (by omega)), fun j hj => ?_⟩
      refine ⟨g j, (hg j (by omega)).1, (hg j (by omega)).2.1, ?_⟩
      rw [hc]
      exact k4 j hj
    · rw [nth_eq, List.getElem?_eq_none (by omega)] at hk
      refine ⟨fun _ => none, fun _ => .inr rfl, fun own' hs hc => ?_⟩
      rw [nth_eq, List.getElem?_eq_none (by omega)]
      exact ⟨hs.trans hk.1, hc⟩
  obtain ⟨oB, hoB⟩ := Classical.skolem.1 hbs
  refine ⟨fun | .tmp t p => oV t p | .self k => own (.self k) | .cell k j => oB k j, fun x => ?_, by omega, by omega, h.sub (fun x => ?_) (fun t => ?_) (by dsimp only; omega) (fun k => ?_)⟩
  · cases x with
    | tmp t p => exact (hoV t).1 p
    | self k => exact .inl rfl
    | cell k j => exact (hoB k).1 j
  · cases x with
    | tmp t p => exact (hoV t).1 p
    | self k => exact .inl rfl
    | cell k j => exact (hoB k).1 j
  · exact zip_rel (o := oV) (by omega) (fun i h1 h2 => (hoV i).2.2 h1 h2) (fun i hi => (hoV i).2.1 (by omega)) t
  · exact (hoB k).2 _ rfl fun _ => rfl

end Go.Abs
