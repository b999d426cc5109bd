/-
  Structs and slices built out of parts; slices made; bytes and strings.
-/
import Derived.Test.YtpafnokcmhlbgaaA10
namespace Go.Abs

variable {E : Env} {P : Program} {R : Places} {ρ : List Nat} {own : OI → Owner} {N : Nat} {st : St} {a : Act} {w : World} {F : Places}

theorem ownC_none (v : AV) (i : Nat) : ownC v (fun _ => none) i = none := by cases v <;> simp [ownC]

theorem cells_rel0 {ty : Ty} (hl : ty.kinds.length = ty.size) {v : AV} {val : Value} (hv : AVR E w F ρ v val (fun _ => none)) {l : List AC} (h : cellsK ty v some = some l) :
    l.length = ty.size ∧ val.cells.size = ty.size ∧ ∀ (i : Nat) (_ : i < l.length) (h2 : i < val.cells.size), AR E w F ρ l[i] val.cells[i] none := by
  obtain ⟨h1, h2, h3⟩ := cells_rel hl hv h
  refine ⟨h1, h2, fun i g1 g2 => ?_⟩
  obtain ⟨_, h4⟩ := h3 i g1
  rwa [ownC_none] at h4

inductive PartsR (E : Env) (w : World) (F : Places) (ρ : List Nat) : List (Nat × AV) → List (Nat × Value) → Prop
  | nil : PartsR E w F ρ [] []
  | cons (i : Nat) (v : AV) (val : Value) (r : List (Nat × AV)) (r' : List (Nat × Value)) (h : AVR E w F ρ v val (fun _ => none)) (hr : PartsR E w F ρ r r') : PartsR E w F ρ ((i, v) :: r) ((i, val) :: r')

theorem parts_rel (h : Rel E R ρ own N st a w) : ∀ (l : List (Nat × Operand)), PartsR E w (Fn own R) ρ (evParts st.fr l) (l.map fun (i, x) => (i, a.eval x))
  | [] => .nil
  | (i, x) :: r => .cons i _ _ _ _ (ev_rel h x).dis (parts_rel h r)

def ownD (own : OI → Owner) : Option Nat → Owners
  | some x => fun p => own (.tmp x p)
  | none => fun _ => none

inductive PartsO (E : Env) (w : World) (F : Places) (ρ : List Nat) (oX : Owners) : Bool → List (Nat × AV) → List (Nat × Value) → Prop
  | nil (b : Bool) : PartsO E w F ρ oX b [] []
  | cons (b : Bool) (i : Nat) (v : AV) (val : Value) (r : List (Nat × AV)) (r' : List (Nat × Value)) (h : AVR E w F ρ v val (fun _ => none)) (hr : PartsO E w F ρ oX b r r') : PartsO E w F ρ oX b ((i, v) :: r) ((i, val) :: r')
  | own (i : Nat) (c : AC) (val : Value) (r : List (Nat × AV)) (r' : List (Nat × Value)) (h : AVR E w F ρ (.one c) val oX) (hr : PartsO E w F ρ oX false r r') : PartsO E w F ρ oX true ((i, .one c) :: r) ((i, val) :: r')

theorem partsO_rel (h : Rel E R ρ own N st a w) (oX : Owners) (b : Bool) : ∀ (l : List (Nat × Operand)), PartsO E w (Fn own R) ρ oX b (evParts st.fr l) (l.map fun (i, x) => (i, a.eval x))
  | [] => .nil b
  | (i, x) :: r => .cons b i _ _ _ _ (ev_rel h x).dis (partsO_rel h oX b r)

theorem partsT_rel (h : Rel E R ρ own N st a w) {x : Nat} {c : AC} (hx : get st.fr x = .one c) : ∀ (l : List (Nat × Operand)), PartsO E w (Fn own R) ρ (fun p => own (.tmp x p)) true (evPartsT st.fr x l) (l.map fun (i, x) => (i, a.eval x))
  | [] => .nil true
  | (i, y) :: r => by
    simp only [evPartsT, List.map_cons]
    cases y with
    | tmp t =>
      simp only [tmpOf]
      by_cases e : t = x
      · subst e
        simp only [nbeq_self, cond_true, ev, hx]
        have := ev_rel h (.tmp t)
        simp only [ev, hx, ownE] at this
        exact .own i c _ _ _ this (partsO_rel h _ _ r)
      · simp only [nbeq_ne e, cond_false]
        exact .cons true i _ _ _ _ (ev_rel h (.tmp t)).dis (partsT_rel h hx r)
    | const v => exact .cons true i _ _ _ _ (ev_rel h (.const v)).dis (partsT_rel h hx r)
    | func f => exact .cons true i _ _ _ _ (ev_rel h (.func f)).dis (partsT_rel h hx r)
    | global g => exact .cons true i _ _ _ _ (ev_rel h (.global g)).dis (partsT_rel h hx r)

theorem firstTk_some {tk : List Nat} {fr : List (Nat × AV)} {x : Nat} : ∀ {l : List (Nat × Operand)}, firstTk tk fr l = some x → ∃ c, get fr x = .one c
  | [], h => by cases h
  | (i, y) :: r, h => by
    simp only [firstTk] at h
    split at h
    · split at h
      · rename_i hc; cases h; exact ⟨_, hc⟩
      · exact firstTk_some h
    · exact firstTk_some h

theorem fillK_sound {β : Type} {oX : Owners} {place : Nat → Option (Nat × Ty)} {place' : Nat → Option (Nat × Nat)} (hplace : ∀ i off tf, place i = some (off, tf) → place' i = some (off, tf.size) ∧ tf.kinds.length = tf.size ∧ 1 ≤ tf.size) :
    ∀ {b : Bool} {parts : List (Nat × AV)} {cp : List (Nat × Value)} {z : List AC} {cs : Array Value} {k0 : Option Nat} {K : List AC → Option β} {r : β}, PartsO E w F ρ oX b parts cp → z.length = cs.size → (b = true → k0 = none) →
    (∀ (k : Nat) (_ : k < z.length) (h2 : k < cs.size), AR E w F ρ z[k] cs[k] (if k0 = some k then oX [] else none)) →
    buildK.fillK place parts z K = some r → ∃ (z' : List AC) (cs' : Array Value) (k1 : Option Nat), K z' = some r ∧ Instr.fill place' cs cp = some cs' ∧ z'.length = cs'.size ∧ cs'.size = cs.size ∧ (∀ k, k1 = some k → k0 = some k ∨ b = true) ∧
      ∀ (k : Nat) (_ : k < z'.length) (h2 : k < cs'.size), AR E w F ρ z'[k] cs'[k] (if k1 = some k then oX [] else none) := by
  intro b parts cp z cs k0 K r hp
  induction hp generalizing z cs k0 with
  | nil b => intro hl _ hr h; exact ⟨z, cs, k0, h, rfl, hl, rfl, fun k hk => .inl hk, hr⟩
  | cons b i v val rest rest' hv hrest ih =>
    intro hl hb hr h
    simp only [buildK.fillK] at h
    cases hpl : place i with
    | none => simp [hpl] at h
    | some q =>
      obtain ⟨off, tf⟩ := q
      simp only [hpl] at h
      obtain ⟨p1, p2, p3⟩ := hplace i off tf hpl
      obtain ⟨l, hcl, h1⟩ := cellsK_some h
      obtain ⟨h2, h3⟩ := storeK_some h1
      obtain ⟨c1, c2, c3⟩ := cells_rel0 p2 hv hcl
      have hle : off + l.length ≤ z.length := by
        rcases h2 with rfl | h2
        · simp at c1; omega
        · exact h2
      obtain ⟨cs1, f1, f2, f3⟩ := fill_one (rest := rest') p1 c2 (by omega : off + tf.size ≤ cs.size)
      have hov := overlay_length (l := z) (o := off) (xs := l) hle
      obtain ⟨z', cs', k1, g1, g2, g3, g4, g6, g5⟩ := ih (z := overlay z off l) (cs := cs1) (k0 := k0.bind fun k => if off ≤ k ∧ k < off + l.length then none else some k) (by omega) (fun hbt => by rw [hb hbt]; rfl) (fun k k1 k2 => by
        have hk := f3 k
        rw [getElem?_pos cs1 k k2] at hk
        rcases overlay_get (l := z) (o := off) (xs := l) hle k k1 with ⟨q1, q2, q3⟩ | ⟨q1, q2, q3⟩
        · rw [if_pos (by omega), getElem?_pos val.cells (k - off) (by omega)] at hk
          rw [q3, Option.some.inj hk, if_neg]
          · exact c3 _ _ _
          · cases k0 with
            | none => simp
            | some k' =>
              simp only [Option.bind_some]
              split
              · simp
              · intro e; cases e; omega
        · rw [if_neg (by omega), getElem?_pos cs k (by omega)] at hk
          rw [q3, Option.some.inj hk]
          have := hr k q2 (by omega)
          cases k0 with
          | none => simpa using this
          | some k' =>
            by_cases e : k' = k
            · subst e
              rw [Option.bind_some, if_neg (show ¬ (off ≤ k' ∧ k' < off + l.length) by omega)]
              exact this
            · have e2 : ¬ (some k' = some k) := by simpa using e
              rw [if_neg e2] at this
              rw [if_neg]
              · exact this
              · simp only [Option.bind_some]
                split
                · simp
                · exact e2) h3
      refine ⟨z', cs', k1, g1, by rw [f1]; exact g2, g3, by omega, fun k hk => ?_, g5⟩
      rcases g6 k hk with h | h
      · cases k0 with
        | none => cases h
        | some k' =>
          simp only [Option.bind_some] at h
          split at h
          · cases h
          · exact .inl h
      · exact .inr h
  | own i c val rest rest' hv hrest ih =>
    intro hl hb hr h
    have hb0 := hb rfl
    subst hb0
    simp only [buildK.fillK] at h
    cases hpl : place i with
    | none => simp [hpl] at h
    | some q =>
      obtain ⟨off, tf⟩ := q
      simp only [hpl] at h
      obtain ⟨p1, p2, p3⟩ := hplace i off tf hpl
      obtain ⟨l, hcl, h1⟩ := cellsK_some h
      obtain ⟨h2, h3⟩ := storeK_some h1
      obtain ⟨c1, c2, c3⟩ := cells_rel p2 hv hcl
      have hle : off + l.length ≤ z.length := by
        rcases h2 with rfl | h2
        · simp at c1; omega
        · exact h2
      obtain ⟨cs1, f1, f2, f3⟩ := fill_one (rest := rest') p1 c2 (by omega : off + tf.size ≤ cs.size)
      have hov := overlay_length (l := z) (o := off) (xs := l) hle
      obtain ⟨z', cs', k1, g1, g2, g3, g4, g6, g5⟩ := ih (z := overlay z off l) (cs := cs1) (k0 := some off) (by omega) (fun hbt => by cases hbt) (fun k k1 k2 => by
        have hk := f3 k
        rw [getElem?_pos cs1 k k2] at hk
        rcases overlay_get (l := z) (o := off) (xs := l) hle k k1 with ⟨q1, q2, q3⟩ | ⟨q1, q2, q3⟩
        · rw [if_pos (by omega), getElem?_pos val.cells (k - off) (by omega)] at hk
          rw [q3, Option.some.inj hk]
          obtain ⟨_, h4⟩ := c3 (k - off) q2
          simp only [ownC] at h4
          by_cases e : k = off
          · subst e; simpa using h4
          · rw [if_neg (by omega)] at h4
            rw [if_neg (by simpa using Ne.symm e)]
            exact h4
        · rw [if_neg (by omega), getElem?_pos cs k (by omega)] at hk
          rw [q3, Option.some.inj hk]
          have := hr k q2 (by omega)
          rw [if_neg (by simp)] at this
          rw [if_neg]
          · exact this
          · intro e
            cases e
            have : l.length = tf.size := c1
            omega) h3
      exact ⟨z', cs', k1, g1, by rw [f1]; exact g2, g3, by omega, fun k hk => .inr rfl, g5⟩

theorem run_places {fs : List Field} (w : World) (h : ∀ f ∈ fs, ∃ i, P.info? f.type = some i) :
    (fs.mapM fun f => (do pure (f.offset, ← sizeOf f.type) : Sem (Nat × Nat))).run P w = .ok (fs.map fun f => (f.offset, P.cellsOf f.type)) w := by
  induction fs with
  | nil => rfl
  | cons f fs ih =>
    obtain ⟨i, hi⟩ := h f (by simp)
    have hs : (sizeOf f.type).run P w = .ok (P.cellsOf f.type) w := by simp [sizeOf, typeInfo, hi, Program.cellsOf]
    simp only [List.mapM_cons, Sem.run_bind, hs, Result.andThen_ok, Sem.run_pure, ih fun g hg => h g (by simp [hg]), List.map_cons]

theorem cellsOf_eq (G : Good P E) {t : TypeId} {ty : Ty} (ht : E.tys t = some ty) : P.cellsOf t = ty.size := by
  obtain ⟨i, z, h1, h2, _⟩ := (G.ty t ty ht).info
  simp [Program.cellsOf, h1, h2]

theorem build_sound (G : Good P E) (h : Rel E R ρ own N st a w) {t : TypeId} {parts : List (Nat × AV)} {cp : List (Nat × Value)} {dis : Option Nat} {b : Bool} (hp : PartsO E w (Fn own R) ρ (ownD own dis) b parts cp) {u : Upd}
    (hu : buildK E t parts some = some u) {dst : Option Nat} (hd : ∀ d, dst = some d → d < N) :
    ∃ val, (Instr.build t cp.toArray).run P w = .ok val w ∧ After E R ρ own N w (st.apply dst ⟨u.val, dis, [], [], []⟩) (a.put dst val) w := by
  unfold buildK at hu
  cases ht : E.tys t with
  | none => simp [ht] at hu
  | some ty =>
    simp only [ht] at hu
    have hT := G.ty t ty ht
    obtain ⟨z, hz, hz2⟩ := hT.run_zero (w := w)
    obtain ⟨hs, _⟩ := zero_cell hz2
    have fin : ∀ {l : List AC} {cs : Array Value} {k1 : Option Nat}, l.length = cs.size → (∀ (k : Nat) (_ : k < l.length) (h2 : k < cs.size), AR E w (Fn own R) ρ l[k] cs[k] (if k1 = some k then (ownD own dis []) else none)) →
        pureK (.agg l) some = some u → After E R ρ own N w (st.apply dst ⟨u.val, dis, [], [], []⟩) (a.put dst (.agg cs)) w := by
      intro l cs k1 hl hr hk
      rw [ofK hk]
      have hval : AVR E w (Fn own R) ρ (.agg l) (.agg cs) (fun p => match p with | [k] => if k < l.length ∧ k1 = some k then (ownD own dis []) else none | _ => none) := by
        have : cs = ((List.range l.length).map fun i => cs.getD i undef).toArray := by
          apply Array.ext'
          apply List.ext_getElem
          · simp [hl]
          · intro i h1 h2
            have h5 : i < cs.size := by simpa using h1
            simp [h5]
        conv => arg 6; rw [this]
        refine .agg l _ _ (fun i hi => ?_) fun p hp => ?_
        · have h5 : i < cs.size := by omega
          have := hr i hi h5
          simpa [h5, hi] using this
        · match p, hp with
          | [], _ => rfl
          | [k], hp =>
            dsimp only
            rw [if_neg]
            rintro ⟨h1, _⟩
            exact hp k h1 rfl
          | _ :: _ :: _, _ => rfl
      have hown : ∀ p B t', (match p with | [k] => if k < l.length ∧ k1 = some k then (ownD own dis []) else none | _ => none : Owner) = some (B, t') → ∃ x k, dis = some x ∧ own (.tmp x []) = some (B, t') ∧ p = [k] ∧ k1 = some k := by
        intro p B t' e
        match p, e with
        | [k], e =>
          dsimp only at e
          split at e
          · rename_i hk
            cases hds : dis with
            | none => rw [hds] at e; cases e
            | some x => rw [hds] at e; exact ⟨x, k, rfl, e, rfl, hk.2⟩
          · cases e
      refine ⟨ρ, _, fun _ _ h => h, h.put (dis := dis) (T := fun _ _ => False) hd (World.keptBut_refl _ _) (fun _ _ h => h.elim) (fun p B t' e => ?_) (fun p p' B t t' e e' => ?_) fun hK => hval.keep hK (fun _ _ h => h) fun p B t e j _ hh => hh⟩
      · obtain ⟨x, k, e1, e2, _⟩ := hown p B t' e
        exact .inl ⟨x, [], t', e1, e2, Nat.le_refl _⟩
      · obtain ⟨x, k, _, _, e1, e2⟩ := hown p B t e
        obtain ⟨x', k', _, _, e3, e4⟩ := hown p' B t' e'
        rw [e1, e3, Option.some.inj (e2.symm.trans e4)]
    cases hd' : ty.desc <;> simp only [hd'] at hu <;> try (cases hu; done)
    · rename_i n e
      cases he : E.tys e with
      | none => simp [he] at hu
      | some te =>
        simp only [he] at hu
        obtain ⟨zl, h1, h2, h3⟩ := zerosK_some hu
        obtain ⟨z', cs', k1, g1, g2, g3, g4, _, g5⟩ := fillK_sound (k0 := none) (place' := fun i => some (i * te.size, te.size)) (fun i off tf hpl => by
          cases hpl; exact ⟨rfl, (G.ty _ _ he).len, (G.ty _ _ he).pos⟩) hp (cs := z.cells) (by omega) (fun _ => rfl) (fun k k1 k2 => by simpa using zeros_rel hz2 h2 h3 k k1 k2) h1
        refine ⟨.agg cs', ?_, fin g3 g5 g1⟩
        simp only [Instr.build, Sem.run_bind, hz, Result.andThen_ok, run_underlying (desc_array hT hd'), (G.ty _ _ he).run_size, g2, Sem.run_pure]
    · rename_i fs
      obtain ⟨fields, hf1, hf2⟩ := desc_struct hT hd'
      obtain ⟨zl, h1, h2, h3⟩ := zerosK_some hu
      have hpl : ∀ i off tf, (match nth fs i with | some (off, ft) => (E.tys ft).map fun tf => (off, tf) | none => none) = some (off, tf) → ((fields.toList.map fun f => (f.offset, P.cellsOf f.type)).toArray[i]?) = some (off, tf.size) ∧ tf.kinds.length = tf.size ∧ 1 ≤ tf.size := by
        intro i off tf hh
        cases hn : nth fs i with
        | none => simp [hn] at hh
        | some q =>
          obtain ⟨o, ft⟩ := q
          simp only [hn] at hh
          cases h5 : E.tys ft with
          | none => simp [h5] at hh
          | some tf' =>
            simp only [h5, Option.map_some, Option.some.injEq, Prod.mk.injEq] at hh
            obtain ⟨rfl, rfl⟩ := hh
            refine ⟨?_, (G.ty _ _ h5).len, (G.ty _ _ h5).pos⟩
            rw [← hf2, nth_map, nth_eq] at hn
            cases h6 : fields.toList[i]? with
            | none => simp [h6] at hn
            | some fld =>
              simp only [h6, Option.map_some, Option.some.injEq, Prod.mk.injEq] at hn
              obtain ⟨rfl, rfl⟩ := hn
              simp only [List.getElem?_toArray, List.getElem?_map, h6, Option.map_some, cellsOf_eq G h5]
      obtain ⟨z', cs', k1, g1, g2, g3, g4, _, g5⟩ := fillK_sound (k0 := none) (place' := fun i => (fields.toList.map fun f => (f.offset, P.cellsOf f.type)).toArray[i]?) hpl hp (cs := z.cells) (by omega) (fun _ => rfl) (fun k k1 k2 => by simpa using zeros_rel hz2 h2 h3 k k1 k2) h1
      refine ⟨.agg cs', ?_, fin g3 g5 g1⟩
      have hrun : (fields.mapM fun f => (do pure (f.offset, ← sizeOf f.type) : Sem (Nat × Nat))).run P w = .ok (fields.toList.map fun f => (f.offset, P.cellsOf f.type)).toArray w := by
        rw [Array.mapM_eq_mapM_toList]
        simp only [Sem.run_map, run_places w (hT.fields _ hf1), Result.andThen_ok]
      simp only [Instr.build, Sem.run_bind, hz, Result.andThen_ok, run_underlying hf1, hrun, g2, Sem.run_pure]

theorem nilL_len : ∀ (ks : List CK) (l : List AC), (nilL ks l).length = l.length
  | [], l => rfl
  | k :: ks, [] => by cases k <;> rfl
  | k :: ks, a :: l => by cases k <;> simp [nilL, nilL_len ks l]

theorem nil_rel {z : Value} {ks : List CK} (h : z.cells.toList.map some = ks.map zeroV) {l : List AC} (hl : l.length = ks.length) (hz : ∀ (i : Nat) (h1 : i < l.length) (h2 : i < ks.length), zeroK ks[i] = some l[i]) :
    ∀ (i : Nat) (h1 : i < (nilL ks l).length) (h2 : i < z.cells.size), AR E w F ρ (nilL ks l)[i] z.cells[i] none := by
  obtain ⟨g1, g2⟩ := zero_cell h
  have key : ∀ (ks : List CK) (l : List AC) (i : Nat) (h1 : i < (nilL ks l).length) (h2 : i < ks.length) (h3 : i < l.length), (nilL ks l)[i] = l[i] ∨ (∃ e, ks[i] = .slice e) ∧ (nilL ks l)[i] = .nils := by
    intro ks
    induction ks with
    | nil => intro l i h1 h2; simp at h2
    | cons k ks ih =>
      intro l i h1 h2 h3
      cases l with
      | nil => simp at h3
      | cons c l =>
        cases i with
        | zero => cases k <;> simp [nilL]
        | succ i =>
          have h1' : i < (nilL ks l).length := by rw [nilL_len] at h1 ⊢; simpa using h1
          have := ih l i h1' (by simpa using h2) (by simpa using h3)
          cases k <;> simpa [nilL] using this
  intro i h1 h2
  have h3 : i < l.length := by rw [nilL_len] at h1; exact h1
  have h4 : i < ks.length := by omega
  rcases key ks l i h1 h4 h3 with e | ⟨⟨e, hk⟩, hn⟩
  · rw [e]; exact zeros_rel h hl hz i h3 h2
  · rw [hn]
    have h5 := g2 i h2 h4
    rw [hk] at h5
    simp only [zeroV, Option.some.injEq] at h5
    rw [← h5]
    exact .nils

theorem buildN_sound (G : Good P E) (h : Rel E R ρ own N st a w) {t : TypeId} {parts : List (Nat × AV)} {cp : List (Nat × Value)} {dis : Option Nat} {b : Bool} (hp : PartsO E w (Fn own R) ρ (ownD own dis) b parts cp) {u : Upd}
    (hu : buildNK E t parts some = some u) {dst : Option Nat} (hd : ∀ d, dst = some d → d < N) :
    ∃ val, (Instr.build t cp.toArray).run P w = .ok val w ∧ After E R ρ own N w (st.apply dst ⟨u.val, dis, [], [], []⟩) (a.put dst val) w := by
  unfold buildNK at hu
  cases ht : E.tys t with
  | none => simp [ht] at hu
  | some ty =>
    simp only [ht] at hu
    have hT := G.ty t ty ht
    obtain ⟨z, hz, hz2⟩ := hT.run_zero (w := w)
    obtain ⟨hs, _⟩ := zero_cell hz2
    have fin : ∀ {l : List AC} {cs : Array Value} {k1 : Option Nat}, l.length = cs.size → (∀ (k : Nat) (_ : k < l.length) (h2 : k < cs.size), AR E w (Fn own R) ρ l[k] cs[k] (if k1 = some k then (ownD own dis []) else none)) →
        pureK (.agg l) some = some u → After E R ρ own N w (st.apply dst ⟨u.val, dis, [], [], []⟩) (a.put dst (.agg cs)) w := by
      intro l cs k1 hl hr hk
      rw [ofK hk]
      have hval : AVR E w (Fn own R) ρ (.agg l) (.agg cs) (fun p => match p with | [k] => if k < l.length ∧ k1 = some k then (ownD own dis []) else none | _ => none) := by
        have : cs = ((List.range l.length).map fun i => cs.getD i undef).toArray := by
          apply Array.ext'
          apply List.ext_getElem
          · simp [hl]
          · intro i h1 h2
            have h5 : i < cs.size := by simpa using h1
            simp [h5]
        conv => arg 6; rw [this]
        refine .agg l _ _ (fun i hi => ?_) fun p hp => ?_
        · have h5 : i < cs.size := by omega
          have := hr i hi h5
          simpa [h5, hi] using this
        · match p, hp with
          | [], _ => rfl
          | [k], hp =>
            dsimp only
            rw [if_neg]
            rintro ⟨h1, _⟩
            exact hp k h1 rfl
          | _ :: _ :: _, _ => rfl
      have hown : ∀ p B t', (match p with | [k] => if k < l.length ∧ k1 = some k then (ownD own dis []) else none | _ => none : Owner) = some (B, t') → ∃ x k, dis = some x ∧ own (.tmp x []) = some (B, t') ∧ p = [k] ∧ k1 = some k := by
        intro p B t' e
        match p, e with
        | [k], e =>
          dsimp only at e
          split at e
          · rename_i hk
            cases hds : dis with
            | none => rw [hds] at e; cases e
            | some x => rw [hds] at e; exact ⟨x, k, rfl, e, rfl, hk.2⟩
          · cases e
      refine ⟨ρ, _, fun _ _ h => h, h.put (dis := dis) (T := fun _ _ => False) hd (World.keptBut_refl _ _) (fun _ _ h => h.elim) (fun p B t' e => ?_) (fun p p' B t t' e e' => ?_) fun hK => hval.keep hK (fun _ _ h => h) fun p B t e j _ hh => hh⟩
      · obtain ⟨x, k, e1, e2, _⟩ := hown p B t' e
        exact .inl ⟨x, [], t', e1, e2, Nat.le_refl _⟩
      · obtain ⟨x, k, _, _, e1, e2⟩ := hown p B t e
        obtain ⟨x', k', _, _, e3, e4⟩ := hown p' B t' e'
        rw [e1, e3, Option.some.inj (e2.symm.trans e4)]
    cases hd' : ty.desc <;> simp only [hd'] at hu <;> try (cases hu; done)
    rename_i fs
    obtain ⟨fields, hf1, hf2⟩ := desc_struct hT hd'
    obtain ⟨zl, h1, h2, h3⟩ := zerosK_some hu
    have hpl : ∀ i off tf, (match nth fs i with | some (off, ft) => (E.tys ft).map fun tf => (off, tf) | none => none) = some (off, tf) → ((fields.toList.map fun f => (f.offset, P.cellsOf f.type)).toArray[i]?) = some (off, tf.size) ∧ tf.kinds.length = tf.size ∧ 1 ≤ tf.size := by
      intro i off tf hh
      cases hn : nth fs i with
      | none => simp [hn] at hh
      | some q =>
        obtain ⟨o, ft⟩ := q
        simp only [hn] at hh
        cases h5 : E.tys ft with
        | none => simp [h5] at hh
        | some tf' =>
          simp only [h5, Option.map_some, Option.some.injEq, Prod.mk.injEq] at hh
          obtain ⟨rfl, rfl⟩ := hh
          refine ⟨?_, (G.ty _ _ h5).len, (G.ty _ _ h5).pos⟩
          rw [← hf2, nth_map, nth_eq] at hn
          cases h6 : fields.toList[i]? with
          | none => simp [h6] at hn
          | some fld =>
            simp only [h6, Option.map_some, Option.some.injEq, Prod.mk.injEq] at hn
            obtain ⟨rfl, rfl⟩ := hn
            simp only [List.getElem?_toArray, List.getElem?_map, h6, Option.map_some, cellsOf_eq G h5]
    obtain ⟨z', cs', k1, g1, g2, g3, g4, _, g5⟩ := fillK_sound (k0 := none) (place' := fun i => (fields.toList.map fun f => (f.offset, P.cellsOf f.type)).toArray[i]?) hpl hp (cs := z.cells) (by rw [nilL_len]; omega) (fun _ => rfl) (fun k k1 k2 => by simpa using nil_rel hz2 h2 h3 k k1 k2) h1
    refine ⟨.agg cs', ?_, fin g3 g5 g1⟩
    have hrun : (fields.mapM fun f => (do pure (f.offset, ← sizeOf f.type) : Sem (Nat × Nat))).run P w = .ok (fields.toList.map fun f => (f.offset, P.cellsOf f.type)).toArray w := by
      rw [Array.mapM_eq_mapM_toList]
      simp only [Sem.run_map, run_places w (hT.fields _ hf1), Result.andThen_ok]
    simp only [Instr.build, Sem.run_bind, hz, Result.andThen_ok, run_underlying hf1, hrun, g2, Sem.run_pure]

end Go.Abs
