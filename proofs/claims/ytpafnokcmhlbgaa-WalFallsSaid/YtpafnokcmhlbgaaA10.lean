/-
  New memory: variables, structs and slices built, slices made, appends.
-/
import Derived.Test.YtpafnokcmhlbgaaA9
namespace Go.Abs

variable {E : Env} {P : Program} {R : Places} {ρ : List Nat} {own : OI → Owner} {N : Nat} {st : St} {a : Act} {w : World} {F : Places}

theorem zeroK_rel {k : CK} {c : AC} {z : Value} (h : zeroK k = some c) (hz : zeroV k = some z) : AR E w F ρ c z none := by
  cases k <;> simp only [zeroK, zeroV, Option.some.injEq, reduceCtorEq] at h hz <;> subst h hz
  · exact .int _ _
  · exact .bool _
  · exact .str []
  · exact .full _ _ _ _ (.empty _ _ _)
  · exact .nilp
  · exact .nilf

theorem zerosK_some {β : Type} : ∀ {ks : List CK} {K : List AC → Option β} {r : β}, zerosK ks K = some r → ∃ l, K l = some r ∧ l.length = ks.length ∧ ∀ (i : Nat) (h1 : i < l.length) (h2 : i < ks.length), zeroK ks[i] = some l[i]
  | [], K, r, h => ⟨[], h, rfl, fun i h => by simp at h⟩
  | k :: ks, K, r, h => by
    simp only [zerosK] at h
    cases hc : zeroK k with
    | none => simp [hc] at h
    | some c =>
      simp only [hc] at h
      obtain ⟨l, h1, h2, h3⟩ := zerosK_some h
      refine ⟨c :: l, h1, by simp [h2], fun i g1 g2 => ?_⟩
      cases i with
      | zero => exact hc
      | succ i => exact h3 i (by simpa using g1) (by simpa using g2)

theorem zero_cell {z : Value} {ks : List CK} (h : z.cells.toList.map some = ks.map zeroV) : z.cells.size = ks.length ∧ ∀ (i : Nat) (h1 : i < z.cells.size) (h2 : i < ks.length), zeroV ks[i] = some z.cells[i] := by
  have hl := congrArg List.length h
  simp only [List.length_map, Array.length_toList] at hl
  refine ⟨hl, fun i h1 h2 => ?_⟩
  have : (z.cells.toList.map some)[i]? = (ks.map zeroV)[i]? := by rw [h]
  simp only [List.getElem?_map, Array.getElem?_toList, h1, getElem?_pos, h2, Option.map_some, Option.some.injEq] at this
  exact this.symm

theorem zeros_rel {z : Value} {ks : List CK} (h : z.cells.toList.map some = ks.map zeroV) {l : List AC} (hl : l.length = ks.length) (hz : ∀ (i : Nat) (h1 : i < l.length) (h2 : i < ks.length), zeroK ks[i] = some l[i]) :
    ∀ (i : Nat) (h1 : i < l.length) (h2 : i < z.cells.size), AR E w F ρ l[i] z.cells[i] none := by
  obtain ⟨h1, h2⟩ := zero_cell h
  intro i g1 g2
  exact zeroK_rel (hz i g1 (by omega)) (h2 i g2 (by omega))

theorem cell_new (w : World) (c : Array Value) (t : TypeId) (j : Nat) (hj : j < c.size) : cell (w.alloc (.cells c t)) w.heap.size j = some c[j] := by
  rw [cell, World.cell?_alloc_new]; simp [hj]
theorem cold_new (w : World) (c : Array Value) (t : TypeId) (j : Nat) : cold (w.alloc (.cells c t)) w.heap.size j = false := World.frozen?_alloc_new ..

theorem run_newRow (w : World) (t : TypeId) (c : Array Value) : (newRow t c).run P w = .ok ⟨w.heap.size, 0, none⟩ (w.alloc (.cells c t)) := by
  simp [newRow]

/-- a new variable, its cells given -/
theorem new_sound (h : Rel E R ρ own N st a w) {t : TypeId} {c : Array Value} {l : List AC} {oC : Nat → Owner} {dst dis : Option Nat} (hd : ∀ d, dst = some d → d < N) (hl : l.length = c.size)
    (hr : ∀ (i : Nat) (h1 : i < l.length) (h2 : i < c.size), AR E w (Fn own R) ρ l[i] c[i] (oC i)) (hC0 : ∀ j, l.length ≤ j → oC j = none)
    (hoC : ∀ j B t, oC j = some (B, t) → ∃ x p, dis = some x ∧ own (.tmp x p) = some (B, t))
    (hCC : ∀ p p' B t t', oC p = some (B, t) → oC p' = some (B, t') → p = p') :
    After E R ρ own N w (st.apply dst ⟨.one (.ptr (lenN st.blk) 0), dis, [], [.var l], []⟩) (a.put dst (.pointer (some ⟨w.heap.size, 0, none⟩))) (w.alloc (.cells c t)) := by
  refine h.make hd (World.keptBut_alloc _ _ _) (Nat.le_refl _) (by simp) hoC hCC hC0 fun F' hK _ j hj => ⟨c[j], cell_new _ _ _ _ (by omega), cold_new .., ?_⟩
  exact (hr j hj (by omega)).keep hK (fun b B hb => by rw [nth_app_lt _ _ _ (nth_lt hb)]; exact hb) fun B t' e j _ hh => kept_there (World.keptBut_alloc w (.cells c t) (inT fun _ _ => False)) hh

theorem alloc_sound (G : Good P E) (h : Rel E R ρ own N st a w) {t : TypeId} {ty : Ty} (ht : E.tys t = some ty) {u : Upd} (hu : (zerosK ty.kinds fun z => some (⟨.one (.ptr (lenN st.blk) 0), none, [], [.var z], []⟩ : Upd)) = some u) {dst : Option Nat} (hd : ∀ d, dst = some d → d < N) :
    ∃ val w', (Instr.alloc t true (.tuple #[])).run P w = .ok val w' ∧ After E R ρ own N w (st.apply dst u) (a.put dst val) w' := by
  have hT := G.ty t ty ht
  obtain ⟨l, h1, h2, h3⟩ := zerosK_some hu
  cases h1
  obtain ⟨z, hz, hz2⟩ := hT.run_zero (w := w)
  obtain ⟨hs, _⟩ := zero_cell hz2
  refine ⟨.pointer (some ⟨w.heap.size, 0, none⟩), w.alloc (.cells z.cells t), ?_, ?_⟩
  · simp only [Instr.alloc, Sem.run_bind, hz, Result.andThen_ok, newVar, run_newRow, Sem.run_pure]
  · exact new_sound h (oC := fun _ => none) hd (by omega) (fun i g1 g2 => zeros_rel hz2 h2 h3 i g1 g2) (fun _ _ => rfl) (fun j B t e => by cases e) (fun p p' B t t' e => by cases e)

theorem box_sound (G : Good P E) (h : Rel E R ρ own N st a w) {t : TypeId} {ty : Ty} (ht : E.tys t = some ty) {v : AV} {val : Value} {pv : Owners} {dis : Option Nat} (hv : AVR E w (Fn own R) ρ v val pv)
    (hpv : ∀ q B s, pv q = some (B, s) → ∃ x, dis = some x ∧ own (.tmp x q) = some (B, s)) {u : Upd} (hu : (cellsK ty v fun l => some (⟨.one (.ptr (lenN st.blk) 0), dis, [], [.var l], []⟩ : Upd)) = some u) {dst : Option Nat} (hd : ∀ d, dst = some d → d < N) :
    ∃ val' w', (Instr.box t val).run P w = .ok val' w' ∧ After E R ρ own N w (st.apply dst u) (a.put dst val') w' := by
  have hT := G.ty t ty ht
  obtain ⟨l, hl, h1⟩ := cellsK_some hu
  cases h1
  obtain ⟨c1, c2, c3⟩ := cells_rel hT.len hv hl
  refine ⟨.pointer (some ⟨w.heap.size, 0, none⟩), w.alloc (.cells val.cells t), ?_, ?_⟩
  · simp only [Instr.box, Sem.run_bind, newVar, run_newRow, Result.andThen_ok, Sem.run_pure]
  · refine new_sound h (oC := fun j => if j < l.length then ownC v pv j else none) hd (by omega) (fun i g1 g2 => ?_) (fun j hj => if_neg (by omega)) (fun j B t e => ?_) (fun j j' B t t' e e' => ?_)
    · rw [if_pos g1]
      exact (c3 i g1).2
    · split at e
      · cases v with
        | one c =>
          simp only [ownC] at e
          split at e
          · obtain ⟨x, hx, q⟩ := hpv _ _ _ e; exact ⟨x, _, hx, q⟩
          · cases e
        | agg cs => obtain ⟨x, hx, q⟩ := hpv _ _ _ e; exact ⟨x, _, hx, q⟩
        | undef => cases e
        | tup l => cases e
      · cases e
    · split at e
      · split at e'
        · cases v with
          | one c =>
            simp only [ownC] at e e'
            split at e
            · split at e'
              · omega
              · cases e'
            · cases e
          | agg cs =>
            simp only [ownC] at e e'
            obtain ⟨x, hx, q1⟩ := hpv _ _ _ e
            obtain ⟨x', hx', q2⟩ := hpv _ _ _ e'
            have := h.inj _ _ _ _ _ q1 q2
            injection this with _ h6
            injection h6
          | undef => cases e
          | tup l => cases e
        · cases e'
      · cases e

/- STRUCTS BUILT -/

theorem fold_set (off : Nat) : ∀ (vs : List Value) (k : Nat) (cs : Array Value), off + k + vs.length ≤ cs.size →
    ((vs.zipIdx k).foldl (fun cs (c, j) => cs.setIfInBounds (off + j) c) cs).size = cs.size ∧
    ∀ i, ((vs.zipIdx k).foldl (fun cs (c, j) => cs.setIfInBounds (off + j) c) cs)[i]? = if off + k ≤ i ∧ i < off + k + vs.length then vs[i - (off + k)]? else cs[i]?
  | [], k, cs, _ => by simp; intro i h1 h2; omega
  | v :: vs, k, cs, h => by
    simp only [List.length_cons] at h
    obtain ⟨h1, h2⟩ := fold_set off vs (k + 1) (cs.setIfInBounds (off + k) v) (by simp; omega)
    simp only [List.zipIdx_cons, List.foldl_cons]
    refine ⟨by rw [h1]; simp, fun i => ?_⟩
    rw [h2]
    by_cases hi : i = off + k
    · subst hi
      have hlt : off + k < cs.size := by omega
      rw [if_neg (by omega), if_pos (by simp)]
      simp [hlt]
    · by_cases hr : off + (k + 1) ≤ i ∧ i < off + (k + 1) + vs.length
      · rw [if_pos hr, if_pos (by simp; omega), show i - (off + k) = (i - (off + (k + 1))) + 1 by omega]
        simp
      · rw [if_neg hr, if_neg (by simp; omega)]
        rw [Array.getElem?_setIfInBounds_ne (by omega)]

theorem fill_one {place : Nat → Option (Nat × Nat)} {cs : Array Value} {i : Nat} {v : Value} {rest : List (Nat × Value)} {off n : Nat} (hp : place i = some (off, n)) (hn : v.cells.size = n) (hb : off + n ≤ cs.size) :
    ∃ cs' : Array Value, Instr.fill place cs ((i, v) :: rest) = Instr.fill place cs' rest ∧ cs'.size = cs.size ∧ ∀ k, cs'[k]? = if off ≤ k ∧ k < off + n then v.cells[k - off]? else cs[k]? := by
  have hf := fold_set off v.cells.toList 0 cs (by simp; omega)
  refine ⟨v.cells.zipIdx.foldl (fun cs (c, j) => cs.setIfInBounds (off + j) c) cs, ?_, ?_, ?_⟩
  · simp only [Instr.fill, hp]
    rw [if_neg (by simp; omega)]
  · rw [← Array.foldl_toList, Array.toList_zipIdx]
    exact hf.1
  · intro k
    rw [← Array.foldl_toList, Array.toList_zipIdx, hf.2]
    simp [hn]

end Go.Abs
