/-
  Operands, rows of cells, and what is taken of the table of types.
-/
import Derived.Test.YtpafnokcmhlbgaaA3
import Derived.Laws.Slices
import Derived.Laws.Pointers
namespace Go.Abs

variable {E : Env} {P : Program} {R : Places} {ρ : List Nat} {own : OI → Owner} {N : Nat} {st : St} {a : Act} {w : World} {F : Places}

/- WHAT IS TAKEN OF THE TABLES -/

def zeroV : CK → Option Value
  | .int k => some (.int k 0)
  | .bool => some (.bool false)
  | .str => some (.string .empty)
  | .slice _ => some (.slice none 0 0)
  | .ptr => some (.pointer none)
  | .fn => some .nilFunc
  | .other => none

def DescOk (ty : Ty) (d : TypeDesc) : Prop :=
  match ty.desc, d with
  | .int k, .int k' => k = k' ∧ ty.kinds = [.int k]
  | .bool, .bool => ty.kinds = [.bool]
  | .str, .string => ty.kinds = [.str]
  | .slice e, .slice e' => e = e' ∧ ty.kinds = [.slice e]
  | .array n e, .array n' e' => n = n' ∧ e = e'
  | .struct fs, .struct fields => fields.toList.map (fun f => (f.offset, f.type)) = fs
  | .ptr e, .pointer e' => e = e' ∧ ty.kinds = [.ptr]
  | .fn, .func _ _ _ => ty.kinds = [.fn]
  | _, _ => False

structure TyOk (P : Program) (t : TypeId) (ty : Ty) : Prop where
  len : ty.kinds.length = ty.size
  pos : 1 ≤ ty.size
  info : ∃ i z, P.info? t = some i ∧ i.size = ty.size ∧ i.bytes = ty.bytes ∧ i.zero = some z ∧ z.cells.toList.map some = ty.kinds.map zeroV
  desc : ∃ d, P.underlying t = some d ∧ DescOk ty d
  fields : ∀ fs, P.underlying t = some (.struct fs) → ∀ f ∈ fs.toList, ∃ i, P.info? f.type = some i

theorem TyOk.run_size {t : TypeId} {ty : Ty} (h : TyOk P t ty) (w : World) : (sizeOf t).run P w = .ok ty.size w := by
  obtain ⟨i, z, h1, h2, _⟩ := h.info
  simp [sizeOf, typeInfo, h1, h2]

theorem TyOk.run_bytes {t : TypeId} {ty : Ty} (h : TyOk P t ty) : ∃ i, P.info? t = some i ∧ i.bytes = ty.bytes := by
  obtain ⟨i, z, h1, h2, h3, _⟩ := h.info
  exact ⟨i, h1, h3⟩

theorem TyOk.run_isAgg {t : TypeId} {ty : Ty} (h : TyOk P t ty) (w : World) : (isAgg t).run P w = .ok ty.desc.isAgg w := by
  obtain ⟨d, h1, h2⟩ := h.desc
  unfold isAgg
  simp only [Sem.run_bind, run_underlying h1, Result.andThen_ok]
  unfold DescOk at h2
  cases hd : ty.desc <;> cases d <;> simp_all [TD.isAgg]

theorem TyOk.run_zero {t : TypeId} {ty : Ty} (h : TyOk P t ty) (w : World) : ∃ z, (zeroValue t).run P w = .ok z w ∧ z.cells.toList.map some = ty.kinds.map zeroV := by
  obtain ⟨i, z, h1, _, _, h2, h3⟩ := h.info
  exact ⟨z, by simp [zeroValue, typeInfo, h1, h2], h3⟩

/- OPERANDS -/

def ownE (own : OI → Owner) : Operand → Owners
  | .tmp t => fun p => own (.tmp t p)
  | _ => fun _ => none

theorem constC_rel {v : Value} {c : AC} (h : constC v = some c) : AR E w F ρ c v none := by
  unfold constC at h
  split at h <;> simp at h <;> subst h
  · exact .int _ _
  · exact .bool _
  · rename_i s
    have : s = ⟨s.data.toList.toArray⟩ := by simp
    conv => arg 6; rw [this]
    exact .str _
  · exact .nilp
  · exact .nils
  · exact .nilf

theorem constL_rel : ∀ {vs : List Value} {l : List AC}, constL vs = some l → l.length = vs.length ∧ ∀ (i : Nat) (h1 : i < l.length) (h2 : i < vs.length), AR E w F ρ l[i] vs[i] none
  | [], l, h => by simp [constL] at h; subst h; simp
  | v :: r, l, h => by
    simp only [constL] at h
    split at h
    · rename_i c l' h1 h2
      simp at h; subst h
      obtain ⟨g1, g2⟩ := constL_rel h2
      refine ⟨by simp [g1], fun i h3 h4 => ?_⟩
      cases i with
      | zero => exact constC_rel h1
      | succ i => exact g2 i (by simpa using h3) (by simpa using h4)
    · cases h

theorem constV_rel (v : Value) : AVR E w F ρ (constV v) v (fun _ => none) := by
  have hone : ∀ c, constC v = some c → AVR E w F ρ (.one c) v (fun _ => none) := fun c hc => .one _ _ _ (constC_rel hc) fun _ _ => rfl
  have hun : AVR E w F ρ .undef v (fun _ => none) := .undef _ _ fun _ => rfl
  unfold constV
  split
  · rename_i cs
    cases hc : constL cs.toList with
    | none => exact .undef _ _ fun _ => rfl
    | some l =>
      obtain ⟨h1, h2⟩ := constL_rel (E := E) (w := w) (F := F) (ρ := ρ) hc
      have hcs : cs = ((List.range l.length).map fun i => cs.toList.getD i undef).toArray := by
        apply Array.ext'
        simp only [h1]
        apply List.ext_getElem
        · simp
        · intro i h3 h4
          have h5 : i < cs.size := by simpa using h3
          simp [List.getD, h5]
      conv => arg 6; rw [hcs]
      refine .agg l _ _ (fun i hi => ?_) fun _ _ => rfl
      have := h2 i hi (by omega)
      have h3 : i < cs.toList.length := by omega
      simpa [List.getD, List.getElem?_eq_getElem h3] using this
  · cases hc : constC v with
    | none => exact hun
    | some c => exact hone c hc

theorem ev_rel (h : Rel E R ρ own N st a w) (x : Operand) : AVR E w (Fn own R) ρ (ev st.fr x) (a.eval x) (ownE own x) := by
  cases x with
  | tmp t => exact h.fr t
  | const v => exact constV_rel v
  | global g => exact .undef _ _ fun _ => rfl
  | func f =>
    refine .one _ _ _ ?_ fun _ _ => rfl
    exact .fn f [] (fun _ => undef) (by simp)

theorem fitK_rel {k : CK} {c : AC} {v : Value} {o : Owner} (h : AR E w F ρ c v o) : AR E w F ρ (fitK k c) v o := by
  unfold fitK
  split
  · cases h; exact .full _ _ _ _ (.empty _ _ _)
  · exact h

theorem fitL_len : ∀ (ks : List CK) (l : List AC), (fitL ks l).length = l.length
  | [], l => by simp [fitL]
  | _ :: _, [] => by simp [fitL]
  | k :: ks, c :: r => by simp [fitL, fitL_len ks r]

theorem fitL_rel : ∀ {ks : List CK} {l : List AC} {g : Nat → Value} {o : Nat → Owner}, (∀ (i : Nat) (h : i < l.length), AR E w F ρ l[i] (g i) (o i)) →
    ∀ (i : Nat) (h : i < (fitL ks l).length), AR E w F ρ (fitL ks l)[i] (g i) (o i)
  | [], l, g, o, h => by simpa [fitL] using h
  | _ :: _, [], g, o, h => by simp [fitL]
  | k :: ks, c :: r, g, o, h => by
    intro i hi
    cases i with
    | zero => exact fitK_rel (h 0 (by simp))
    | succ i =>
      have := fitL_rel (ks := ks) (l := r) (g := fun j => g (j + 1)) (o := fun j => o (j + 1)) (fun j hj => h (j + 1) (Nat.succ_lt_succ hj)) i (by simpa [fitL] using hi)
      simpa [fitL] using this

theorem fit_rel {t : TypeId} {v : AV} {val : Value} {o : Owners} (h : AVR E w F ρ v val o) : AVR E w F ρ (E.fit t v) val o := by
  unfold Env.fit
  cases E.tys t with
  | none => exact h
  | some ty =>
    dsimp only
    cases h with
    | undef v o ho => exact .undef _ _ ho
    | one c v o h ho =>
      dsimp only
      split
      · exact .one _ _ _ (fitK_rel h) ho
      · exact .one _ _ _ h ho
    | agg l g o h ho =>
      dsimp only
      have hl := fitL_len ty.kinds l
      have := AVR.agg (E := E) (w := w) (F := F) (ρ := ρ) (fitL ty.kinds l) g o (fun i hi => fitL_rel (o := fun i => o [i]) h i hi) (fun p hp => ho p (by rwa [hl] at hp))
      rwa [hl] at this
    | tup l g o h ho => exact .tup l g o h ho

/- ROWS OF CELLS -/

theorem takeK_some {β : Type} : ∀ {l : List AC} {o n : Nat} {K : List AC → Option β} {r : β}, takeK l o n K = some r → (n = 0 ∨ o + n ≤ l.length) ∧ K ((l.drop o).take n) = some r
  | _, _, 0, K, r, h => by simpa [takeK] using h
  | [], o, n + 1, K, r, h => by simp [takeK] at h
  | c :: l, 0, n + 1, K, r, h => by
    simp only [takeK] at h
    obtain ⟨h1, h2⟩ := takeK_some h
    refine ⟨.inr ?_, by simpa using h2⟩
    simp only [List.length_cons]
    omega
  | _ :: l, o + 1, n + 1, K, r, h => by
    simp only [takeK] at h
    obtain ⟨h1, h2⟩ := takeK_some h
    refine ⟨.inr ?_, by simpa using h2⟩
    simp only [List.length_cons]
    omega

/-- the cells of l with xs laid over them from o on -/
def overlay (l : List AC) (o : Nat) (xs : List AC) : List AC := l.take o ++ xs ++ l.drop (o + xs.length)

theorem storeK_some {β : Type} : ∀ {l : List AC} {o : Nat} {xs : List AC} {K : List AC → Option β} {r : β}, storeK l o xs K = some r → (xs = [] ∨ o + xs.length ≤ l.length) ∧ K (overlay l o xs) = some r
  | l, o, [], K, r, h => by
    simp only [storeK] at h
    refine ⟨.inl rfl, ?_⟩
    simpa [overlay] using h
  | [], o, _ :: _, K, r, h => by simp [storeK] at h
  | c :: l, 0, x :: xs, K, r, h => by
    simp only [storeK] at h
    obtain ⟨h1, h2⟩ := storeK_some h
    refine ⟨.inr ?_, ?_⟩
    · rcases h1 with h1 | h1
      · subst h1; simp
      · simp at h1 ⊢; omega
    · simpa [overlay] using h2
  | c :: l, o + 1, x :: xs, K, r, h => by
    simp only [storeK] at h
    obtain ⟨h1, h2⟩ := storeK_some h
    refine ⟨.inr ?_, ?_⟩
    · simp at h1 ⊢; omega
    · rw [← h2]
      simp [overlay, Nat.add_right_comm o 1]

theorem overlay_length {l : List AC} {o : Nat} {xs : List AC} (h : o + xs.length ≤ l.length) : (overlay l o xs).length = l.length := by
  simp [overlay]; omega

theorem overlay_get {l : List AC} {o : Nat} {xs : List AC} (h : o + xs.length ≤ l.length) (j : Nat) (hj : j < (overlay l o xs).length) :
    (∃ (_ : o ≤ j) (h2 : j - o < xs.length), (overlay l o xs)[j] = xs[j - o]) ∨ ((j < o ∨ o + xs.length ≤ j) ∧ ∃ h3 : j < l.length, (overlay l o xs)[j] = l[j]) := by
  have hl := overlay_length h
  unfold overlay at *
  by_cases h1 : j < o
  · refine .inr ⟨.inl h1, by omega, ?_⟩
    rw [List.getElem_append_left (by simp; omega), List.getElem_append_left (by simp; omega), List.getElem_take]
  · by_cases h2 : j < o + xs.length
    · refine .inl ⟨by omega, by omega, ?_⟩
      rw [List.getElem_append_left (by simp; omega), List.getElem_append_right (by simp; omega)]
      simp only [List.length_take]
      congr 1
      omega
    · refine .inr ⟨.inr (by omega), by omega, ?_⟩
      rw [List.getElem_append_right (by simp; omega)]
      simp only [List.getElem_drop, List.length_append, List.length_take]
      congr 1
      omega

end Go.Abs
