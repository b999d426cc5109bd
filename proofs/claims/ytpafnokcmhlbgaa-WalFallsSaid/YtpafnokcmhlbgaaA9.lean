/-
  Memory read and written: loads, stores, new variables.
-/
import Derived.Test.YtpafnokcmhlbgaaA8
namespace Go.Abs

variable {E : Env} {P : Program} {R : Places} {ρ : List Nat} {own : OI → Owner} {N : Nat} {st : St} {a : Act} {w : World} {F : Places}

theorem CKsame_of {j k : CK} (h : CK.same j k = true) : j = k := by
  cases j <;> cases k <;> simp only [CK.same] at h <;> first | rfl | (cases h; done) | (rw [same_of h]) | (rw [Nat.eq_of_beq_eq_true h])

theorem sameKinds_of : ∀ {x y : List CK}, sameKinds x y = true → x = y
  | [], [], _ => rfl
  | [], _ :: _, h => by simp [sameKinds] at h
  | _ :: _, [], h => by simp [sameKinds] at h
  | j :: x, k :: y, h => by
    simp only [sameKinds] at h
    cases hs : CK.same j k with
    | false => simp [hs] at h
    | true => rw [CKsame_of hs, sameKinds_of (x := x) (y := y) (by simpa [hs] using h)]

theorem projCell_rel {row : Row} {j : Nat} (hj : j < row.length) {k : CK} (hk : row[j].kind = k) {v : Value} (h : CR E w F row[j] v) {c : AC} (hc : projCell row j k = some c) : AR E w F ρ c v none := by
  unfold projCell at hc
  rw [cellAt_eq hj] at hc
  generalize row[j] = x at *
  subst hk
  cases h with
  | int k n => simp only [Cell.kind, Cell.toInt] at hc; cases hc; exact .int _ _
  | bool b => simp only [Cell.kind, Cell.toBool] at hc; cases hc; exact .bool _
  | str s => simp only [Cell.kind, Cell.toStr] at hc; cases hc; exact .str _
  | empty e b cap => simp only [Cell.kind, Cell.toRows] at hc; cases hc; exact .sl _ _ _ (.empty _ _ _)
  | slice e rows te B off cap g he hk hc' hm hr => simp only [Cell.kind, Cell.toRows] at hc; cases hc; exact .sl _ _ _ (.slice e rows te B off cap g he hk hc' hm hr)

theorem projK_some {β : Type} {row : Row} : ∀ {ks : List CK} {o : Nat} {K : List AC → Option β} {r : β}, projK row ks o K = some r →
    ∃ l, K l = some r ∧ l.length = ks.length ∧ ∀ (i : Nat) (h1 : i < l.length) (h2 : i < ks.length), projCell row (o + i) ks[i] = some l[i]
  | [], o, K, r, h => ⟨[], h, rfl, fun i h => by simp at h⟩
  | k :: ks, o, K, r, h => by
    simp only [projK] at h
    cases hc : projCell row o k with
    | none => simp [hc] at h
    | some c =>
      simp only [hc] at h
      obtain ⟨l, h1, h2, h3⟩ := projK_some h
      refine ⟨c :: l, h1, by simp [h2], fun i g1 g2 => ?_⟩
      cases i with
      | zero => exact hc
      | succ i =>
        have := h3 i (by simpa using g1) (by simpa using g2)
        rw [show o + (i + 1) = o + 1 + i by omega]
        exact this

theorem run_loadVar (G : Good P E) {t : TypeId} {ty : Ty} (ht : E.tys t = some ty) {B o : Nat} {g : Nat → Value} (h : ∀ i, i < ty.size → cell w B (o + i) = some (g i)) :
    (Instr.loadAt t (.pointer (some ⟨B, o, none⟩))).run P w = .ok (if ty.desc.isAgg then .agg ((List.range ty.size).map g).toArray else g 0) w := by
  have hT := G.ty t ty ht
  have hpos := hT.pos
  simp only [Instr.loadAt, Instr.sureAddr, Sem.run_bind, Sem.run_pure, Result.andThen_ok, loadVar, hT.run_isAgg]
  cases hd : ty.desc.isAgg with
  | true =>
    simp only [if_true, Sem.run_bind, hT.run_size, Result.andThen_ok, Sem.run_pure]
    rw [run_loadCells w ⟨B, o, none⟩ ty.size g (fun j hj => by rw [add_none]; exact h j hj)]
    rfl
  | false =>
    have := h 0 (by omega)
    simp only [Nat.add_zero] at this
    simp [this]

theorem blk_vals {b : Nat} {cells : List AC} (h : BlkR E w F ρ own b (some (.var cells))) : ∃ B, nth ρ b = some B ∧ own (.self b) = some (B, 0) ∧ (∀ j, cells.length ≤ j → own (.cell b j) = none) ∧
    ∃ g : Nat → Value, ∀ (j : Nat) (hj : j < cells.length), cell w B j = some (g j) ∧ cold w B j = false ∧ AR E w F ρ cells[j] (g j) (own (.cell b j)) := by
  obtain ⟨B, h1, h2, h3, h4⟩ := h
  refine ⟨B, h1, h2, h3, fun j => if hj : j < cells.length then Classical.choose (h4 j hj) else undef, fun j hj => ?_⟩
  simp only [hj, dif_pos]
  exact Classical.choose_spec (h4 j hj)

theorem ownsV_some {agg : Bool} {o : Nat → Owner} {p : List Nat} {B t : Nat} (h : ownsV agg o p = some (B, t)) : ∃ i, o i = some (B, t) ∧ p = (if agg then [i] else []) ∧ (agg = false → i = 0) := by
  cases agg with
  | true =>
    match p, h with
    | [], h => cases h
    | [i], h => exact ⟨i, h, rfl, by simp⟩
    | _ :: _ :: _, h => cases h
  | false =>
    match p, h with
    | [], h => exact ⟨0, h, rfl, by simp⟩
    | [_], h => cases h
    | _ :: _ :: _, h => cases h

theorem ownsV_none (agg : Bool) (p : List Nat) : ownsV agg (fun _ => none) p = none := by
  match p with
  | [] => simp [ownsV]
  | [i] => simp [ownsV]
  | _ :: _ :: _ => rfl

theorem valueK_some {β : Type} {ty : Ty} {l : List AC} {K : AV → Option β} {r : β} (h : valueK ty l K = some r) : ∃ v, valueK ty l some = some v ∧ K v = some r := by
  unfold valueK at h ⊢
  cases hd : ty.desc.isAgg with
  | true => rw [hd] at h; exact ⟨_, rfl, h⟩
  | false =>
    rw [hd] at h
    cases l with
    | nil => cases h
    | cons c l => cases l with
      | nil => exact ⟨_, rfl, h⟩
      | cons d l => cases h

/-- the elements behind a pointer into a block of elements -/
theorem arr_vals (h : Rel E R ρ own N st a w) {b : Nat} {e : TypeId} {rows : Rows} {te : Ty} {i o : Nat} (hb : nth st.blk b = some (.arr e rows)) (he : E.tys e = some te) (hi : i < rows.length) {vp : Value} {pp : Owners} (hp : AVR E w F ρ (.one (.mptr b e i o)) vp pp) :
    ∃ B, nth ρ b = some B ∧ vp = .pointer (some ⟨B, i * te.size + o, none⟩) ∧ own (.self b) = some (B, 0) ∧ (∀ r ∈ rows, r.map Cell.kind = te.kinds) ∧ ∃ g : Nat → Value, ∀ (j : Nat) (hj : j < rows.flatten.length), cell w B j = some (g j) ∧ cold w B j = false ∧ CR E w (Fn own R) rows.flatten[j] (g j) := by
  have hbr := h.blk b
  rw [hb] at hbr
  have hq := hp.get_one
  generalize pp [] = q at hq
  cases hq with
  | mptr _ _ _ _ te' B hB he' =>
    rw [he] at he'
    cases he'
    rcases hbr with ⟨h1, _⟩ | ⟨B', te', h1, h2, _, h4, h5, h7, h6⟩
    · subst h1; simp at hi
    · rw [hB] at h1
      cases h1
      rw [he] at h4
      cases h4
      refine ⟨B, hB, rfl, h2, h5, fun j => if hj : j < rows.flatten.length then Classical.choose (h6 j hj) else undef, fun j hj => ?_⟩
      simp only [hj, dif_pos]
      exact Classical.choose_spec (h6 j hj)

theorem load_sound (G : Good P E) (h : Rel E R ρ own N st a w) {tk : Bool} {t : TypeId} {p : AV} {vp : Value} {pp : Owners} (hp : AVR E w (Fn own R) ρ p vp pp) {u : Upd} (hu : loadK E tk t st p some = some u) {dst : Option Nat} (hd : ∀ d, dst = some d → d < N) :
    ∃ val, (Instr.loadAt t vp).run P w = .ok val w ∧ After E R ρ own N w (st.apply dst u) (a.put dst val) w := by
  unfold loadK at hu
  cases ht : E.tys t with
  | none => simp [ht] at hu
  | some ty =>
    simp only [ht] at hu
    have hT := G.ty t ty ht
    have hpos := hT.pos
    split at hu <;> try (cases hu; done)
    · rename_i b o
      cases hb : nth st.blk b with
      | none => simp [hb] at hu
      | some blk => cases blk with
        | dead => simp [hb] at hu
        | fro => simp [hb] at hu
        | arr => simp [hb] at hu
        | var cells =>
          simp only [hb] at hu
          obtain ⟨h1, h2⟩ := takeK_some hu
          obtain ⟨v, hv, h3⟩ := valueK_some h2
          have hle : o + ty.size ≤ cells.length := by omega
          have hlen : ((cells.drop o).take ty.size).length = ty.size := by simp; omega
          have hbr := h.blk b
          rw [hb] at hbr
          obtain ⟨B, hB, hself, hnone, g, hg⟩ := blk_vals hbr
          obtain ⟨B', hB', rfl⟩ := hp.get_one.inv_ptr
          rw [hB] at hB'
          cases hB'
          have hrun := run_loadVar (w := w) G ht (B := B) (o := o) (g := fun i => g (o + i)) (fun i hi => (hg _ (by omega)).1)
          have hrel := value_rel G ht (g := fun i => g (o + i)) (o := fun i => if i < ty.size then own (.cell b (o + i)) else none) hlen (fun i hi => by
            have hi' : i < ty.size := by omega
            simp only [hi', if_true, List.getElem_take, List.getElem_drop]
            exact (hg (o + i) (by omega)).2.2) (fun i hi => by rw [if_neg (by omega)]) hv rfl
          refine ⟨_, hrun, ?_⟩
          cases tk with
          | false =>
            simp only [Option.some.injEq] at h3
            subst h3
            exact h.pure0 hd hrel.dis
          | true =>
            simp only at h3
            obtain ⟨h4, h5⟩ := storeK_some h3
            simp only [Option.some.injEq] at h5
            subst h5
            have hdl : (disL ((cells.drop o).take ty.size)).length = ty.size := by rw [disL_eq, List.length_map, hlen]
            have hov := overlay_length (l := cells) (o := o) (xs := disL ((cells.drop o).take ty.size)) (by omega)
            have hVsrc : ∀ p B t, (ownsV ty.desc.isAgg fun i => if i < ty.size then own (.cell b (o + i)) else none) p = some (B, t) → ∃ i, i < ty.size ∧ own (.cell b (o + i)) = some (B, t) ∧ p = (if ty.desc.isAgg then [i] else []) ∧ (ty.desc.isAgg = false → i = 0) := by
              intro p B t e
              obtain ⟨i, e1, e2, e3⟩ := ownsV_some e
              by_cases hi : i < ty.size
              · rw [if_pos hi] at e1; exact ⟨i, hi, e1, e2, e3⟩
              · rw [if_neg hi] at e1; cases e1
            refine h.write (oV := ownsV ty.desc.isAgg fun i => if i < ty.size then own (.cell b (o + i)) else none) (oC := fun j => if o ≤ j ∧ j < o + ty.size then none else own (.cell b j)) hb hB hd (World.keptBut_refl _ _) (fun x => ∃ j, x = .cell b j) (fun x hx => .inr hx) ?_ ?_ ?_ ?_ ?_ ?_ ?_ ?_
            · intro p B t e
              obtain ⟨i, _, e1, _⟩ := hVsrc p B t e
              exact ⟨_, ⟨_, rfl⟩, e1⟩
            · intro j B t e
              split at e
              · cases e
              · exact ⟨_, ⟨_, rfl⟩, e⟩
            · intro p p' B t t' e e'
              obtain ⟨i, _, e1, e2, e3⟩ := hVsrc p B t e
              obtain ⟨i', _, e1', e2', e3'⟩ := hVsrc p' B t' e'
              have := h.inj _ _ _ _ _ e1 e1'
              injection this with _ hj
              have hii : i = i' := by omega
              rw [e2, e2', hii]
            · intro j j' B t t' e e'
              split at e
              · cases e
              · split at e'
                · cases e'
                · have := h.inj _ _ _ _ _ e e'
                  injection this
            · intro p j B t t' e e'
              exfalso
              obtain ⟨i, hi, e1, _⟩ := hVsrc p B t e
              split at e'
              · cases e'
              · rename_i hn
                have := h.inj _ _ _ _ _ e1 e'
                injection this with _ hj
                omega
            · intro hK
              exact hrel.keep hK (fun _ _ h => h) fun p B t e j _ hh => hh
            · intro j hj
              rw [hov] at hj
              split
              · rfl
              · exact hnone j hj
            · intro hK j hj
              rw [hov] at hj
              obtain ⟨k1, k2, k3⟩ := hg j hj
              refine ⟨g j, k1, k2, ?_⟩
              rcases overlay_get (l := cells) (o := o) (xs := disL ((cells.drop o).take ty.size)) (by omega) j (by omega) with ⟨q1, q2, q3⟩ | ⟨q1, q2, q3⟩
              · rw [q3]
                rw [hdl] at q2
                rw [if_pos ⟨q1, by omega⟩]
                have : (disL ((cells.drop o).take ty.size))[j - o]'(by omega) = cells[j].dis := by
                  simp only [disL_eq, List.getElem_map, List.getElem_take, List.getElem_drop]
                  congr 2
                  omega
                rw [this]
                exact (k3.dis).keep hK (fun _ _ h => h) fun B t e => by cases e
              · rw [q3]
                rw [hdl] at q1
                rw [if_neg (by omega)]
                exact k3.keep hK (fun _ _ h => h) fun B t e j _ hh => hh
    · rename_i e row o
      cases he : E.tys e with
      | none => simp [he] at hu
      | some te =>
        simp only [he] at hu
        obtain ⟨hk, h1⟩ := cond_none_some hu
        obtain ⟨l, h2, h3, h4⟩ := projK_some h1
        obtain ⟨v, hv, h5⟩ := valueK_some h2
        have hks := sameKinds_of hk
        rw [takeN_eq, dropN_eq] at hks
        have hq := hp.get_one
        generalize pp [] = q at hq
        cases hq with
        | eptr _ _ _ te' B off g he' hrk hm hr =>
          rw [he] at he'
          cases he'
          have hlen : l.length = ty.size := by rw [h3]; exact hT.len
          have hkl : ty.kinds.length = ty.size := hT.len
          have hrl : o + ty.size ≤ row.length := by
            have e1 : row.length = te.kinds.length := by rw [← hrk]; simp
            have e2 := congrArg List.length hks
            rw [List.length_take, List.length_drop, hkl] at e2
            omega
          have hrun := run_loadVar (w := w) G ht (B := B) (o := off + o) (g := fun i => g (o + i)) (fun i hi => by
            have := (hm (o + i) (by omega)).1
            rwa [show off + (o + i) = off + o + i by omega] at this)
          have hrel := value_rel (ρ := ρ) (F := Fn own R) (w := w) G ht (l := l) (g := fun i => g (o + i)) (o := fun _ => none) hlen (fun i hi => by
            have hi' : i < ty.size := by omega
            have hj : o + i < row.length := by omega
            refine projCell_rel hj ?_ (hr (o + i) hj) (h4 i hi (by omega))
            have e3 : ty.kinds[i]'(by omega) = (row.map Cell.kind)[o + i]'(by simpa using hj) := by
              simp only [← hks, List.getElem_take, List.getElem_drop, hrk]
            rw [e3, List.getElem_map]) (fun _ _ => rfl) hv rfl
          refine ⟨_, hrun, ?_⟩
          cases h5
          exact h.pure0 hd (hrel.none_of (ownsV_none _))
    · rename_i c
      cases hk : ty.kinds with
      | nil => simp [hk] at hu
      | cons k ks => cases ks with
        | cons k' ks => simp [hk] at hu
        | nil =>
          simp only [hk] at hu
          obtain ⟨v, hv, h5⟩ := valueK_some hu
          have hs1 : ty.size = 1 := by rw [← hT.len, hk]; rfl
          have hq := hp.get_one
          generalize pp [] = q at hq
          cases hq with
          | aptr _ B off val hm hr =>
            have hrun := run_loadVar (w := w) G ht (B := B) (o := off) (g := fun _ => val) (fun i hi => by
              have : i = 0 := by omega
              subst this
              exact hm.1)
            have hrel := value_rel (ρ := ρ) (F := Fn own R) (w := w) G ht (l := [c.dis]) (g := fun _ => val) (o := fun _ => none) (by simp [hs1]) (fun i hi => by
              have : i = 0 := by simpa using hi
              subst this
              exact hr.dis) (fun _ _ => rfl) hv rfl
            refine ⟨_, hrun, ?_⟩
            cases h5
            exact h.pure0 hd (hrel.none_of (ownsV_none _))
    · rename_i b e i o
      cases hb : nth st.blk b with
      | none => simp [hb] at hu
      | some blk => cases blk with
        | dead => simp [hb] at hu
        | fro => simp [hb] at hu
        | var => simp [hb] at hu
        | arr e' rows =>
          simp only [hb] at hu
          cases he : E.tys e with
          | none => simp [he] at hu
          | some te =>
            simp only [he] at hu
            obtain ⟨hk, hu⟩ := cond_none_some hu
            obtain ⟨hi, h1⟩ := cond_none_some hu
            rw [Bool.and_eq_true] at hk
            have hee := Nat.eq_of_beq_eq_true hk.1
            subst hee
            have hi : i < rows.length := Nat.lt_of_succ_le (Nat.le_of_ble_eq_true hi)
            obtain ⟨l, h2, h3, h4⟩ := projK_some h1
            obtain ⟨v, hv, h5⟩ := valueK_some h2
            have hks := sameKinds_of hk.2
            rw [takeN_eq, dropN_eq] at hks
            obtain ⟨B, hB, rfl, _, hrk, g, hg⟩ := arr_vals h hb he hi hp
            have hlen : l.length = ty.size := by rw [h3]; exact hT.len
            have hkl : ty.kinds.length = ty.size := hT.len
            have hte := (G.ty _ _ he).len
            have hrow : rows[i].map Cell.kind = te.kinds := hrk _ (List.getElem_mem hi)
            have hrlen : rows[i].length = te.size := by rw [← hte, ← hrow]; simp
            have hrl : o + ty.size ≤ te.size := by
              have e2 := congrArg List.length hks
              rw [List.length_take, List.length_drop, hkl] at e2
              omega
            have hat : ∀ j (hj : j < te.size), cell w B (i * te.size + j) = some (g (i * te.size + j)) ∧ CR E w (Fn own R) (rows[i][j]'(by omega)) (g (i * te.size + j)) := by
              intro j hj
              obtain ⟨q1, q2, q3⟩ := flat_get (even_of hte hrk) hi hj
              have := hg _ q1
              rw [q3] at this
              exact ⟨this.1, this.2.2⟩
            have hrun := run_loadVar (w := w) G ht (B := B) (o := i * te.size + o) (g := fun k => g (i * te.size + (o + k))) (fun k hk => by
              rw [Nat.add_assoc]
              exact (hat (o + k) (by omega)).1)
            have hrel := value_rel (ρ := ρ) (F := Fn own R) (w := w) G ht (l := l) (g := fun k => g (i * te.size + (o + k))) (o := fun _ => none) hlen (fun k hk => by
              have hj : o + k < rows[i].length := by omega
              rw [rowAt_eq hi] at h4
              refine projCell_rel hj ?_ (hat (o + k) (by omega)).2 (h4 k hk (by omega))
              have e3 : ty.kinds[k]'(by omega) = (rows[i].map Cell.kind)[o + k]'(by simpa using hj) := by
                simp only [← hks, List.getElem_take, List.getElem_drop, hrow]
              rw [e3, List.getElem_map]) (fun _ _ => rfl) hv rfl
            refine ⟨_, hrun, ?_⟩
            cases h5
            exact h.pure0 hd (hrel.none_of (ownsV_none _))


/- STORES -/

theorem AR.oneCell {c : AC} {v : Value} {o : Owner} (h : AR E w F ρ c v o) : v.cells = #[v] ∧ v.oneCell' = true := by
  cases h with
  | sl e rows v h => cases h <;> exact ⟨rfl, rfl⟩
  | _ => exact ⟨rfl, rfl⟩

/-- the owners of a value's cells -/
def ownC (v : AV) (p : Owners) (i : Nat) : Owner :=
  match v with
  | .one _ => if i = 0 then p [] else none
  | .agg _ => p [i]
  | _ => none

theorem cellsK_some {β : Type} {ty : Ty} {v : AV} {K : List AC → Option β} {r : β} (h : cellsK ty v K = some r) : ∃ l, cellsK ty v some = some l ∧ K l = some r := by
  unfold cellsK at h ⊢
  cases v with
  | one c => cases hk : ty.kinds with
    | nil => simp [hk] at h
    | cons k ks => cases ks with
      | nil => rw [hk] at h; exact ⟨_, rfl, h⟩
      | cons k' ks => simp [hk] at h
  | agg l =>
    obtain ⟨h1, h2⟩ := cond_none_some h
    exact ⟨_, by simp only [h1, cond_true], h2⟩
  | undef => simp at h
  | tup l => simp at h

theorem cells_rel {ty : Ty} (hl : ty.kinds.length = ty.size) {v : AV} {val : Value} {p : Owners} (hv : AVR E w F ρ v val p) {l : List AC} (h : cellsK ty v some = some l) :
    l.length = ty.size ∧ val.cells.size = ty.size ∧ ∀ (i : Nat) (h1 : i < l.length), ∃ (h2 : i < val.cells.size), AR E w F ρ l[i] val.cells[i] (ownC v p i) := by
  unfold cellsK at h
  cases hv with
  | undef => simp at h
  | tup => simp at h
  | one c v o h1 ho =>
    cases hk : ty.kinds with
    | nil => simp [hk] at h
    | cons k ks => cases ks with
      | cons k' ks => simp [hk] at h
      | nil =>
        simp only [hk, Option.some.injEq] at h
        subst h
        have hs : ty.size = 1 := by rw [← hl, hk]; rfl
        obtain ⟨hc, _⟩ := h1.oneCell
        refine ⟨by simp [hs], by rw [hc, hs]; rfl, fun i hi => ?_⟩
        have : i = 0 := by simpa using hi
        subst this
        refine ⟨by rw [hc]; simp, ?_⟩
        simp only [hc, ownC, if_true]
        exact fitK_rel h1
  | agg cs g o h1 ho =>
    obtain ⟨h2, h3⟩ := cond_none_some h
    cases h3
    have hs : cs.length = ty.size := by have := Nat.eq_of_beq_eq_true h2; rwa [lenN_eq] at this
    have hlen := fitL_len ty.kinds cs
    refine ⟨by rw [hlen, hs], by simp [Value.cells, hs], fun i hi => ?_⟩
    refine ⟨by simp [Value.cells]; omega, ?_⟩
    have := fitL_rel (ks := ty.kinds) (o := fun i => p [i]) h1 i hi
    simpa [Value.cells, ownC] using this

def setRow (w : World) (B : Nat) : Nat → List Value → World
  | _, [] => w
  | o, v :: vs => setRow (w.setCell ⟨B, o, none⟩ v) B (o + 1) vs

theorem cell_set_ne (w : World) {B o B' o' : Nat} (v : Value) (h : B' ≠ B ∨ o' ≠ o) : cell (w.setCell ⟨B, o, none⟩ v) B' o' = cell w B' o' :=
  World.cell?_setCell_other _ _ _ _ fun e => by cases e; simp at h

theorem setRow_other : ∀ (vs : List Value) (w : World) (B o B' o' : Nat), (B' ≠ B ∨ o' < o ∨ o + vs.length ≤ o') → cell (setRow w B o vs) B' o' = cell w B' o'
  | [], _, _, _, _, _, _ => rfl
  | v :: vs, w, B, o, B', o', h => by
    simp only [List.length_cons] at h
    rw [setRow, setRow_other vs _ B (o + 1) B' o' (by omega), cell_set_ne _ _ (by omega)]

theorem setRow_cold : ∀ (vs : List Value) (w : World) (B o B' o' : Nat), cold (setRow w B o vs) B' o' = cold w B' o'
  | [], _, _, _, _, _ => rfl
  | v :: vs, w, B, o, B', o' => by
    rw [setRow, setRow_cold vs]; exact World.frozen?_setCell ..

theorem setRow_same : ∀ (vs : List Value) (w : World) (B o i : Nat) (hi : i < vs.length), (∃ u, cell w B (o + i) = some u) → cell (setRow w B o vs) B (o + i) = some vs[i]
  | [], _, _, _, i, hi, _ => by simp at hi
  | v :: vs, w, B, o, 0, _, ⟨u, hu⟩ => by
    rw [setRow, setRow_other vs _ B (o + 1) B (o + 0) (by omega)]
    exact World.cell?_setCell_same w _ _ hu
  | v :: vs, w, B, o, i + 1, hi, ⟨u, hu⟩ => by
    rw [setRow, show o + (i + 1) = o + 1 + i by omega]
    refine setRow_same vs _ B (o + 1) i (by simpa using hi) ⟨u, ?_⟩
    rw [cell_set_ne _ _ (by omega), show o + 1 + i = o + (i + 1) by omega]
    exact hu

theorem setRow_size : ∀ (vs : List Value) (w : World) (B o : Nat), (setRow w B o vs).heap.size = w.heap.size
  | [], _, _, _ => rfl
  | v :: vs, w, B, o => by rw [setRow, setRow_size vs]; simp

theorem setRow_kept : ∀ (vs : List Value) (w : World) (B o : Nat) (T : Places), (∀ i, i < vs.length → T B (o + i)) → w.keptBut (setRow w B o vs) (inT T)
  | [], w, _, _, _, _ => World.keptBut_refl _ _
  | v :: vs, w, B, o, T, h => by
    refine World.keptBut_trans (World.keptBut_setCell w ⟨B, o, none⟩ v (h 0 (by simp))) ?_
    exact setRow_kept vs _ B (o + 1) T fun i hi => by
      have := h (i + 1) (by simpa using hi)
      rwa [show o + (i + 1) = o + 1 + i by omega] at this

theorem run_storeCells : ∀ (vs : List Value) (w : World) (B o i : Nat), (∀ v ∈ vs, v.oneCell' = true) → (∀ j, j < vs.length → (∃ u, cell w B (o + i + j) = some u) ∧ cold w B (o + i + j) = false) →
    (storeCells ⟨B, o, none⟩ vs i).run P w = .ok () (setRow w B (o + i) vs)
  | [], w, B, o, i, _, _ => rfl
  | v :: vs, w, B, o, i, h1, h2 => by
    obtain ⟨⟨u, hu⟩, hc⟩ := h2 0 (by simp)
    simp only [Nat.add_zero] at hu hc
    have hst : (store (⟨B, o + i, none⟩ : Addr) v).run P w = .ok () (w.setCell ⟨B, o + i, none⟩ v) := by
      rw [run_store P w _ _ _ (h1 v (by simp))]
      simp [hu, hc]
    simp only [storeCells, Sem.run_bind, add_none, hst, Result.andThen_ok, setRow]
    have := run_storeCells vs (w.setCell ⟨B, o + i, none⟩ v) B o (i + 1) (fun x hx => h1 x (by simp [hx])) (fun j hj => by
      obtain ⟨⟨u', hu'⟩, hc'⟩ := h2 (j + 1) (by simpa using hj)
      refine ⟨⟨u', ?_⟩, ?_⟩
      · rw [cell_set_ne _ _ (by omega), show o + (i + 1) + j = o + i + (j + 1) by omega]; exact hu'
      · rw [cold, World.frozen?_setCell, show o + (i + 1) + j = o + i + (j + 1) by omega]; exact hc')
    rw [show o + (i + 1) = o + i + 1 by omega] at this
    exact this

theorem toCell_rel {c : AC} {v : Value} {o : Owner} (h : AR E w F ρ c v o) {x : Cell} (hx : c.toCell = some x) : CR E w F x v := by
  cases h with
  | int k n => cases hx; exact .int _ _
  | bool b => cases hx; exact .bool _
  | str s => cases hx; exact .str _
  | sl e rows v h => cases hx; exact h
  | full e rows a n h => cases hx; exact h
  | own e rows te B off len cap h => cases hx; exact h
  | _ => cases hx

theorem rowK_some {β : Type} : ∀ {ks : List CK} {l : List AC} {K : Row → Option β} {r : β}, rowK ks l K = some r →
    ∃ row, K row = some r ∧ row.map Cell.kind = ks ∧ row.length = l.length ∧ l.length = ks.length ∧ ∀ (i : Nat) (h1 : i < l.length) (h2 : i < row.length) (h3 : i < ks.length), (fitK ks[i] l[i]).toCell = some row[i]
  | [], [], K, r, h => ⟨[], h, rfl, rfl, rfl, fun i h => by simp at h⟩
  | [], _ :: _, K, r, h => by simp [rowK] at h
  | _ :: _, [], K, r, h => by simp [rowK] at h
  | k :: ks, c :: l, K, r, h => by
    simp only [rowK] at h
    cases hc : (fitK k c).toCell with
    | none => simp [hc] at h
    | some x =>
      simp only [hc] at h
      obtain ⟨h1, h2⟩ := cond_none_some h
      obtain ⟨row, g1, g2, g3, g4, g5⟩ := rowK_some h2
      refine ⟨x :: row, g1, by simp [g2, CKsame_of h1], by simp [g3], by simp [g4], fun i k1 k2 k3 => ?_⟩
      cases i with
      | zero => exact hc
      | succ i => exact g5 i (by simpa using k1) (by simpa using k2) (by simpa using k3)

theorem row_of {ks : List CK} {l : List AC} {row : Row} (hl : l.length = ks.length) (hr : row.length = l.length) (h : ∀ (i : Nat) (h1 : i < l.length) (h2 : i < row.length) (h3 : i < ks.length), (fitK ks[i] l[i]).toCell = some row[i])
    {g : Nat → Value} (hg : ∀ (i : Nat) (h1 : i < l.length), AR E w F ρ l[i] (g i) none) : ∀ (i : Nat) (h1 : i < row.length), CR E w F row[i] (g i) := fun i h1 =>
  toCell_rel (fitK_rel (hg i (by omega))) (h i (by omega) h1 (by omega))

theorem ownSet_sub {d : Option Nat} {y : OI} {B t : Nat} (h : ownSet own d (fun _ => none) y = some (B, t)) : own y = some (B, t) := by
  cases y with
  | tmp s p =>
    simp only [ownSet] at h
    split at h
    · cases h
    · exact h
  | self k => exact h
  | cell k j => exact h

/-- other elements for a block's, where only that block was written -/
theorem Rel.arrSet (h : Rel E R ρ own N st a w) {dst : Option Nat} {val : Value} {w' : World} {b B : Nat} {e : TypeId} {rows rows' : Rows} {rd : List Nat} (hb : nth st.blk b = some (.arr e rows)) (hself : own (.self b) = some (B, 0))
    (hd : ∀ d, dst = some d → d < N) (hk : w.keptBut w' (inT fun B' _ => B' = B))
    (hnew : Keeps w (Fn own R) w' (Fn (ownSet own dst (fun _ => none)) R) → BlkR E w' (Fn (ownSet own dst (fun _ => none)) R) ρ (ownSet own dst (fun _ => none)) b (some (.arr e rows'))) :
    After E R ρ own N w (st.apply dst ⟨.undef, none, [(b, .arr e rows')], [], rd⟩) (a.put dst val) w' := by
  refine ⟨ρ, _, fun _ _ h => h, h.gen (own' := ownSet own dst (fun _ => none)) (fun B' _ => B' = B) (fun t => dst = some t) (fun k => k = b) hk ?_ ?_ ?_ (by rw [size_put]; exact h.size) (by rw [defers_put]; exact h.defers) ?_ ?_ ?_ (fun _ _ h => h) ?_ ?_⟩
  · rintro B' off rfl
    exact ⟨.self b, 0, hself, Nat.zero_le _, rfl⟩
  · intro y B' t' hy
    exact .inl ⟨y, t', ownSet_sub hy, Nat.le_refl _⟩
  · intro x y B' t t' hx hy
    exact h.inj _ _ _ _ _ (ownSet_sub hx) (ownSet_sub hy)
  · intro t hc
    have h1 : dst ≠ some t := hc
    refine ⟨by simp only [St.apply, disT, get_put, h1, if_false], ?_, fun p => by simp only [ownSet, h1, if_false]⟩
    rw [getD_put a dst val t (by rw [h.size]; exact hd)]
    simp only [h1, if_false]
  · intro hK t hc
    have : get (st.apply dst ⟨.undef, none, [(b, .arr e rows')], [], rd⟩).fr t = .undef := by simp only [St.apply, disT, get_put, hc, if_true]
    rw [this]
    exact .undef _ _ fun p => by simp only [ownSet, hc, if_true]
  · simp only [St.apply, writes, app_eq, List.append_nil, setN_eq, List.length_set]; exact h.rho
  · intro k hkb
    refine ⟨?_, rfl, fun j => rfl⟩
    simp only [St.apply, writes, app_eq, List.append_nil]
    rw [nth_set _ _ _ _ (by rw [hb]; rfl)]
    simp [hkb]
  · intro hK k hkb
    subst hkb
    simp only [St.apply, writes, app_eq, List.append_nil]
    rw [nth_set _ _ _ _ (by rw [hb]; rfl)]
    simp only [if_true]
    exact hnew hK

theorem setCells_get (row cs : Row) (o j : Nat) (h : o + cs.length ≤ row.length) : (setCells row o cs)[j]? = if o ≤ j ∧ j < o + cs.length then cs[j - o]? else row[j]? := by
  unfold setCells
  simp only [app_eq, takeN_eq, dropN_eq, lenN_eq]
  by_cases h1 : j < o
  · rw [List.getElem?_append_left (by simp; omega), if_neg (by omega), List.getElem?_take_of_lt h1]
  · rw [List.getElem?_append_right (by simp; omega), List.length_take, Nat.min_eq_left (by omega)]
    by_cases h2 : j < o + cs.length
    · rw [if_pos ⟨by omega, h2⟩, List.getElem?_append_left (by omega)]
    · rw [if_neg (by omega), List.getElem?_append_right (by omega), List.getElem?_drop]
      congr 1
      omega

theorem setCells_kinds {row cs : Row} {ks ks' : List CK} {o : Nat} (h1 : row.map Cell.kind = ks) (h2 : cs.map Cell.kind = ks') (h3 : (ks.drop o).take ks'.length = ks') (h : o + cs.length ≤ row.length) : (setCells row o cs).map Cell.kind = ks := by
  apply List.ext_getElem?
  intro j
  rw [List.getElem?_map, setCells_get row cs o j h]
  have hl : cs.length = ks'.length := by rw [← h2]; simp
  split
  · rename_i hj
    rw [← List.getElem?_map, h2, ← h3, List.getElem?_take_of_lt (by omega), List.getElem?_drop]
    congr 1
    omega
  · rw [← List.getElem?_map, h1]

theorem store_core (G : Good P E) (h : Rel E R ρ own N st a w) {t : TypeId} {ty : Ty} (ht : E.tys t = some ty) {b o : Nat} {cells l : List AC} {v : AV} {vp val : Value} {pp pv : Owners} {dis : Option Nat} (hb : nth st.blk b = some (.var cells)) (hp : AVR E w (Fn own R) ρ (.one (.ptr b o)) vp pp)
    (hpv : ∀ q B s, pv q = some (B, s) → ∃ x, dis = some x ∧ own (.tmp x q) = some (B, s)) (h2 : l = [] ∨ o + l.length ≤ cells.length) (c1 : l.length = ty.size) (c2 : val.cells.size = ty.size)
    (c3 : ∀ (i : Nat) (h1 : i < l.length), ∃ (h2 : i < val.cells.size), AR E w (Fn own R) ρ l[i] val.cells[i] (ownC v pv i)) {dst : Option Nat} (hd : ∀ d, dst = some d → d < N) :
    ∃ w', (Instr.storeAt t vp val).run P w = .ok () w' ∧ After E R ρ own N w (st.apply dst ⟨.undef, dis, [(b, .var (overlay cells o l))], [], [b]⟩) (a.put dst undef) w' := by
  have hT := G.ty t ty ht
  have hpos := hT.pos
  have hle : o + l.length ≤ cells.length := by
    rcases h2 with rfl | h2
    · simp at c1; omega
    · exact h2
  have hbr := h.blk b
  rw [hb] at hbr
  obtain ⟨B, hB, hself, hnone, g, hg⟩ := blk_vals hbr
  obtain ⟨B', hB', rfl⟩ := hp.get_one.inv_ptr
  rw [hB] at hB'
  cases hB'
  have hlist : val.cells.toList.length = l.length := by simp [c1, c2]
  have hone : ∀ x ∈ val.cells.toList, x.oneCell' = true := by
    intro x hx
    obtain ⟨i, hi, rfl⟩ := List.getElem_of_mem hx
    obtain ⟨h4, h5⟩ := c3 i (by omega)
    have := h5.oneCell.2
    simpa using this
  have hrun := run_storeCells (P := P) val.cells.toList w B o 0 hone (fun j hj => by
    have := hg (o + j) (by omega)
    exact ⟨⟨_, this.1⟩, this.2.1⟩)
  refine ⟨setRow w B o val.cells.toList, ?_, ?_⟩
  · simp only [Instr.storeAt, Instr.sureAddr, Sem.run_bind, Sem.run_pure, Result.andThen_ok, storeVar, hT.run_size]
    rw [if_neg (by rw [c2]; simp)]
    exact hrun
  · have hk : w.keptBut (setRow w B o val.cells.toList) (inT fun B' _ => B' = B) := setRow_kept _ _ _ _ _ fun _ _ => rfl
    have hov := overlay_length (l := cells) (o := o) (xs := l) hle
    have hinj : ∀ i j B t t', ownC v pv i = some (B, t) → ownC v pv j = some (B, t') → i = j := by
      intro i j B t t' e1 e2
      cases v with
      | one c =>
        simp only [ownC] at e1 e2
        split at e1
        · split at e2
          · omega
          · cases e2
        · cases e1
      | agg cs =>
        simp only [ownC] at e1 e2
        obtain ⟨x, hx, q1⟩ := hpv _ _ _ e1
        obtain ⟨x', hx', q2⟩ := hpv _ _ _ e2
        have := h.inj _ _ _ _ _ q1 q2
        injection this with _ h6
        injection h6
      | undef => cases e1
      | tup l => cases e1
    have hsrcC : ∀ i B t, ownC v pv i = some (B, t) → ∃ x q, dis = some x ∧ own (.tmp x q) = some (B, t) := by
      intro i B t e
      cases v with
      | one c =>
        simp only [ownC] at e
        split at e
        · obtain ⟨x, hx, q⟩ := hpv _ _ _ e; exact ⟨x, _, hx, q⟩
        · cases e
      | agg cs => obtain ⟨x, hx, q⟩ := hpv _ _ _ e; exact ⟨x, _, hx, q⟩
      | undef => cases e
      | tup l => cases e
    refine h.write (oV := fun _ => none) (oC := fun j => if o ≤ j ∧ j < o + l.length then ownC v pv (j - o) else own (.cell b j)) hb hB hd hk (fun x => (∃ t p, dis = some t ∧ x = .tmp t p) ∨ ∃ j, x = .cell b j) (fun x hx => hx) ?_ ?_ ?_ ?_ ?_ ?_ ?_ ?_
    · intro p B t e; cases e
    · intro j B t e
      split at e
      · obtain ⟨x, q, hx, e2⟩ := hsrcC _ _ _ e
        exact ⟨_, .inl ⟨x, q, hx, rfl⟩, e2⟩
      · exact ⟨_, .inr ⟨j, rfl⟩, e⟩
    · intro p p' B t t' e; cases e
    · intro j j' B t t' e e'
      split at e
      · split at e'
        · have := hinj _ _ _ _ _ e e'; omega
        · obtain ⟨x, q, hx, e2⟩ := hsrcC _ _ _ e
          have := h.inj _ _ _ _ _ e2 e'
          cases this
      · split at e'
        · obtain ⟨x, q, hx, e2⟩ := hsrcC _ _ _ e'
          have := h.inj _ _ _ _ _ e2 e
          cases this
        · have := h.inj _ _ _ _ _ e e'
          injection this
    · intro p j B t t' e; cases e
    · intro hK; exact .undef _ _ fun _ => rfl
    · intro j hj
      rw [hov] at hj
      rw [if_neg (by omega)]
      exact hnone j hj
    · intro hK j hj
      rw [hov] at hj
      obtain ⟨k1, k2, k3⟩ := hg j hj
      rcases overlay_get (l := cells) (o := o) (xs := l) hle j (by omega) with ⟨q1, q2, q3⟩ | ⟨q1, q2, q3⟩
      · obtain ⟨h4, h5⟩ := c3 (j - o) q2
        rw [if_pos ⟨q1, by omega⟩]
        refine ⟨val.cells[j - o], ?_, ?_, ?_⟩
        · have := setRow_same val.cells.toList w B o (j - o) (by omega) ⟨_, by rw [show o + (j - o) = j by omega]; exact k1⟩
          rw [show o + (j - o) = j by omega] at this
          simpa using this
        · rw [setRow_cold]; exact k2
        · rw [q3]
          exact h5.keep hK (fun _ _ h => h) fun B t e j _ hh => kept_there hk hh
      · rw [if_neg (by omega)]
        refine ⟨g j, ?_, ?_, ?_⟩
        · rw [setRow_other _ _ _ _ _ _ (by omega)]; exact k1
        · rw [setRow_cold]; exact k2
        · rw [q3]
          exact k3.keep hK (fun _ _ h => h) fun B t e j _ hh => kept_there hk hh

theorem store_sound (G : Good P E) (h : Rel E R ρ own N st a w) {t : TypeId} {p v : AV} {vp val : Value} {pp pv : Owners} {dis : Option Nat} (hp : AVR E w (Fn own R) ρ p vp pp) (hv : AVR E w (Fn own R) ρ v val pv)
    (hpv : ∀ q B s, pv q = some (B, s) → ∃ x, dis = some x ∧ own (.tmp x q) = some (B, s)) {u : Upd} (hu : storeOpK E t st p v dis some = some u) {dst : Option Nat} (hd : ∀ d, dst = some d → d < N) :
    ∃ w', (Instr.storeAt t vp val).run P w = .ok () w' ∧ After E R ρ own N w (st.apply dst u) (a.put dst undef) w' := by
  unfold storeOpK at hu
  cases ht : E.tys t with
  | none => simp [ht] at hu
  | some ty =>
    simp only [ht] at hu
    have hT := G.ty t ty ht
    have hpos := hT.pos
    split at hu <;> try (cases hu; done)
    rotate_left
    · rename_i b e i o
      cases hb : nth st.blk b with
      | none => simp [hb] at hu
      | some blk => cases blk with
        | dead => simp [hb] at hu
        | fro => simp [hb] at hu
        | var => simp [hb] at hu
        | arr e' rows =>
          simp only [hb] at hu
          cases he : E.tys e with
          | none => simp [he] at hu
          | some te =>
            simp only [he] at hu
            obtain ⟨hk, hu⟩ := cond_none_some hu
            obtain ⟨hi, h1⟩ := cond_none_some hu
            rw [Bool.and_eq_true] at hk
            have hee := Nat.eq_of_beq_eq_true hk.1
            subst hee
            have hi : i < rows.length := Nat.lt_of_succ_le (Nat.le_of_ble_eq_true hi)
            have hks := sameKinds_of hk.2
            rw [takeN_eq, dropN_eq] at hks
            obtain ⟨l, hl, h1⟩ := cellsK_some h1
            obtain ⟨cs, h3, hck, hcl, hll, hr⟩ := rowK_some h1
            cases h3
            obtain ⟨c1, c2, c3⟩ := cells_rel hT.len hv hl
            obtain ⟨B, hB, rfl, hself, hrk, g, hg⟩ := arr_vals h hb he hi hp
            have hte := (G.ty _ _ he).len
            have hrow : rows[i].map Cell.kind = te.kinds := hrk _ (List.getElem_mem hi)
            have hrlen : rows[i].length = te.size := by rw [← hte, ← hrow]; simp
            have hkl : ty.kinds.length = ty.size := hT.len
            have hrl : o + ty.size ≤ te.size := by
              have e2 := congrArg List.length hks
              rw [List.length_take, List.length_drop, hkl] at e2
              omega
            have hcsl : cs.length = ty.size := by omega
            have hfl := flat_len (even_of hte hrk)
            have hmul : i * te.size + te.size ≤ rows.flatten.length := by
              rw [hfl]
              have := Nat.mul_le_mul_right te.size (show i + 1 ≤ rows.length by omega)
              rw [Nat.add_mul] at this
              omega
            have hlist : val.cells.toList.length = ty.size := by simp [c2]
            have hone : ∀ x ∈ val.cells.toList, x.oneCell' = true := by
              intro x hx
              obtain ⟨j, hj, rfl⟩ := List.getElem_of_mem hx
              obtain ⟨h4, h5⟩ := c3 j (by omega)
              have := h5.oneCell.2
              simpa using this
            have hrun := run_storeCells (P := P) val.cells.toList w B (i * te.size + o) 0 hone (fun j hj => by
              have := hg (i * te.size + o + j) (by omega)
              exact ⟨⟨_, this.1⟩, this.2.1⟩)
            refine ⟨setRow w B (i * te.size + o) val.cells.toList, ?_, ?_⟩
            · simp only [Instr.storeAt, Instr.sureAddr, Sem.run_bind, Sem.run_pure, Result.andThen_ok, storeVar, hT.run_size]
              rw [if_neg (by rw [c2]; simp)]
              exact hrun
            · have hkp : w.keptBut (setRow w B (i * te.size + o) val.cells.toList) (inT fun B' _ => B' = B) := setRow_kept _ _ _ _ _ fun _ _ => rfl
              refine h.arrSet hb hself hd hkp fun hK => .inr ⟨B, te, hB, hself, ?_, he, ?_, ?_, fun k hk' => ?_⟩
              · intro j
                have hbr := h.blk b
                rw [hb] at hbr
                rcases hbr with ⟨_, h2, _⟩ | ⟨_, _, _, _, h3, _⟩
                · rw [hself] at h2; cases h2
                · exact h3 j
              · intro r hr'
                rw [setN_eq] at hr'
                rcases List.mem_or_eq_of_mem_set hr' with hm | rfl
                · exact hrk r hm
                · rw [rowAt_eq hi]
                  exact setCells_kinds hrow hck (by rw [hkl]; exact hks) (by omega)
              · have hbr := h.blk b
                rw [hb] at hbr
                rcases hbr with ⟨_, h2, _⟩ | ⟨B2, _, hB2, _, _, _, _, h7, _⟩
                · rw [hself] at h2; cases h2
                · rw [hB] at hB2
                  cases hB2
                  exact hK.still B 0 h7
              · have hev : ∀ r ∈ setN rows i (setCells (rowAt rows i) o cs), r.map Cell.kind = te.kinds := by
                  intro r hr'
                  rw [setN_eq] at hr'
                  rcases List.mem_or_eq_of_mem_set hr' with hm | rfl
                  · exact hrk r hm
                  · rw [rowAt_eq hi]
                    exact setCells_kinds hrow hck (by rw [hkl]; exact hks) (by omega)
                have hlen' : (setN rows i (setCells (rowAt rows i) o cs)).length = rows.length := by rw [setN_eq, List.length_set]
                have hfl' := flat_len (even_of hte hev)
                rw [hlen'] at hfl'
                have hposs : 0 < te.size := by have := (G.ty _ _ he).pos; omega
                have hdm : k = k / te.size * te.size + k % te.size := by rw [Nat.mul_comm]; exact (Nat.div_add_mod k te.size).symm
                have hmod : k % te.size < te.size := Nat.mod_lt _ hposs
                have hdiv : k / te.size < rows.length := by rw [Nat.div_lt_iff_lt_mul hposs]; omega
                have hold := hg k (by omega)
                obtain ⟨q1, q2, q3⟩ := flat_get (even_of hte hrk) hdiv hmod
                obtain ⟨p1, p2, p3⟩ := flat_get (even_of hte hev) (i := k / te.size) (by omega) hmod
                have e1 : (setN rows i (setCells (rowAt rows i) o cs)).flatten[k] = ((setN rows i (setCells (rowAt rows i) o cs))[k / te.size]'(by omega))[k % te.size]'p2 := by
                  rw [← p3]
                  congr 1
                have e2 : rows.flatten[k]'(by omega) = rows[k / te.size][k % te.size]'q2 := by
                  rw [← q3]
                  congr 1
                rw [e1]
                have e3 : ((setN rows i (setCells (rowAt rows i) o cs))[k / te.size]'(by omega))[k % te.size]? = if k / te.size = i ∧ o ≤ k % te.size ∧ k % te.size < o + cs.length then cs[k % te.size - o]? else rows[k / te.size][k % te.size]? := by
                  simp only [setN_eq, List.getElem_set]
                  by_cases hki : i = k / te.size
                  · rw [if_pos hki, rowAt_eq hi, setCells_get _ _ _ _ (by omega)]
                    subst hki
                    simp
                  · rw [if_neg hki, if_neg (fun hh => hki hh.1.symm)]
                rw [List.getElem?_eq_getElem p2] at e3
                by_cases hin : k / te.size = i ∧ o ≤ k % te.size ∧ k % te.size < o + cs.length
                · rw [if_pos hin, List.getElem?_eq_getElem (by omega)] at e3
                  rw [Option.some.inj e3]
                  have hkk : k = i * te.size + o + (k % te.size - o) := by rw [← hin.1]; omega
                  obtain ⟨h4, h5⟩ := c3 (k % te.size - o) (by omega)
                  refine ⟨val.cells[k % te.size - o], ?_, ?_, ?_⟩
                  · have := setRow_same val.cells.toList w B (i * te.size + o) (k % te.size - o) (by omega) ⟨_, by rw [← hkk]; exact hold.1⟩
                    rw [← hkk] at this
                    simpa using this
                  · rw [setRow_cold]; exact hold.2.1
                  · exact (toCell_rel (fitK_rel h5) (hr _ (by omega) (by omega) (by omega))).keep hK
                · rw [if_neg hin, List.getElem?_eq_getElem q2] at e3
                  rw [Option.some.inj e3, ← e2]
                  refine ⟨g k, ?_, ?_, hold.2.2.keep hK⟩
                  · rw [setRow_other _ _ _ _ _ _ ?_]
                    · exact hold.1
                    · by_cases hki : k / te.size = i
                      · rw [hlist]
                        have : ¬ (o ≤ k % te.size ∧ k % te.size < o + cs.length) := fun hh => hin ⟨hki, hh⟩
                        rw [hki] at hdm
                        omega
                      · rcases Nat.lt_or_gt_of_ne hki with hlt | hgt
                        · have := Nat.mul_le_mul_right te.size (show k / te.size + 1 ≤ i by omega)
                          rw [Nat.add_mul] at this
                          omega
                        · have := Nat.mul_le_mul_right te.size (show i + 1 ≤ k / te.size by omega)
                          rw [Nat.add_mul] at this
                          rw [hlist]
                          omega
                  · rw [setRow_cold]; exact hold.2.1
    rename_i b o
    cases hb : nth st.blk b with
    | none => simp [hb] at hu
    | some blk => cases blk with
      | dead => simp [hb] at hu
      | fro => simp [hb] at hu
      | arr => simp [hb] at hu
      | var cells =>
        simp only [hb] at hu
        obtain ⟨l, hl, h1⟩ := cellsK_some hu
        obtain ⟨h2, h3⟩ := storeK_some h1
        cases h3
        obtain ⟨c1, c2, c3⟩ := cells_rel hT.len hv hl
        exact store_core G h ht hb hp hpv h2 c1 c2 c3 hd

theorem storeN_sound (G : Good P E) (h : Rel E R ρ own N st a w) {t : TypeId} {p v : AV} {vp val : Value} {pp : Owners} (hp : AVR E w (Fn own R) ρ p vp pp) (hv : AVR E w (Fn own R) ρ v val (fun _ => none))
    {u : Upd} (hu : storeNK E t st p v some = some u) {dst : Option Nat} (hd : ∀ d, dst = some d → d < N) :
    ∃ w', (Instr.storeAt t vp val).run P w = .ok () w' ∧ After E R ρ own N w (st.apply dst u) (a.put dst undef) w' := by
  unfold storeNK at hu
  cases ht : E.tys t with
  | none => simp [ht] at hu
  | some ty =>
    simp only [ht] at hu
    have hT := G.ty t ty ht
    split at hu <;> try (cases hu; done)
    rename_i b o l
    split at hu <;> try (cases hu; done)
    rename_i cells hb
    obtain ⟨hl, hu⟩ := cond_none_some hu
    have hl : l.length = ty.size := by rw [← lenN_eq]; exact Nat.eq_of_beq_eq_true hl
    obtain ⟨h2, h3⟩ := storeK_some hu
    cases h3
    cases hv with
    | agg _ g _ hr ho =>
      refine store_core G h ht (v := .agg l) (pv := fun _ => none) hb hp (fun q B s e => by cases e) h2 hl (by simp [Value.cells, hl]) (fun i h1 => ⟨by simp [Value.cells, h1], ?_⟩) hd
      have := hr i h1
      simpa [Value.cells, ownC, h1] using this

end Go.Abs
