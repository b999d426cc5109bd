/-
  Slices built and made; bytes out of strings and strings out of bytes; numbers and strings converted.
-/
import Derived.Test.YtpafnokcmhlbgaaA11
import Derived.Laws.BytesArg
import Derived.Lib.ConvBytes
namespace Go.Abs

variable {E : Env} {P : Program} {R : Places} {ρ : List Nat} {own : OI → Owner} {N : Nat} {st : St} {a : Act} {w : World} {F : Places}

theorem rows_fill {β : Type} {te : Ty} (hkl : te.kinds.length = te.size) {len : Nat} : ∀ {parts : List (Nat × AV)} {cp : List (Nat × Value)} {i : Nat} {cs : Array Value} {K : Rows → Option β} {r : β}, PartsR E w F ρ parts cp → cs.size = len * te.size →
    rowsOfK te len i parts K = some r → ∃ (rows : Rows) (cs' : Array Value), K rows = some r ∧ Instr.fill (fun i => some (i * te.size, te.size)) cs cp = some cs' ∧ cs'.size = cs.size ∧ i + rows.length = len ∧ (∀ row ∈ rows, row.map Cell.kind = te.kinds) ∧
      (∀ k, k < i * te.size → cs'[k]? = cs[k]?) ∧ ∀ (k : Nat) (h : k < rows.flatten.length), ∃ v, cs'[i * te.size + k]? = some v ∧ CR E w F rows.flatten[k] v := by
  intro parts cp i cs K r hp
  induction hp generalizing i cs K with
  | nil =>
    intro hs h
    simp only [rowsOfK] at h
    obtain ⟨h1, h2⟩ := cond_none_some h
    exact ⟨[], cs, h2, rfl, rfl, by simpa using Nat.eq_of_beq_eq_true h1, by simp, fun _ _ => rfl, fun k h => by simp at h⟩
  | cons j v val rest rest' hv hrest ih =>
    intro hs h
    simp only [rowsOfK] at h
    obtain ⟨hij, h1⟩ := cond_none_some h
    have := Nat.eq_of_beq_eq_true hij
    subst this
    obtain ⟨l, hcl, h2⟩ := cellsK_some h1
    obtain ⟨row, h3, hk, hrl, hll, hr⟩ := rowK_some h2
    obtain ⟨c1, c2, c3⟩ := cells_rel0 hkl hv hcl
    -- the rest tells that there is room
    have hroom : ∀ {parts : List (Nat × AV)} {i : Nat} {K : Rows → Option β}, rowsOfK te len i parts K = some r → i ≤ len := by
      intro parts
      induction parts with
      | nil => intro i K h; simp only [rowsOfK] at h; have := Nat.eq_of_beq_eq_true (cond_none_some h).1; omega
      | cons q parts ihp =>
        intro i K h
        obtain ⟨q1, q2⟩ := q
        simp only [rowsOfK] at h
        obtain ⟨_, h⟩ := cond_none_some h
        obtain ⟨_, _, h⟩ := cellsK_some h
        obtain ⟨_, h, _⟩ := rowK_some h
        have := ihp h
        omega
    have hlen := hroom h3
    have hle : i * te.size + te.size ≤ cs.size := by
      rw [hs]
      have := Nat.mul_le_mul_right te.size hlen
      rwa [Nat.succ_mul] at this
    obtain ⟨cs1, f1, f2, f3⟩ := fill_one (place := fun i => some (i * te.size, te.size)) (i := i) (rest := rest') rfl c2 hle
    obtain ⟨rows, cs', g1, g2, g3, g4, g5, g6, g7⟩ := ih (i := i + 1) (cs := cs1) (by omega) h3
    have hsucc : (i + 1) * te.size = i * te.size + te.size := Nat.succ_mul i te.size
    refine ⟨row :: rows, cs', g1, by rw [f1]; exact g2, by omega, by simp; omega, fun x hx => ?_, fun k hk => ?_, fun k hk => ?_⟩
    · rcases List.mem_cons.1 hx with rfl | hx
      · exact hk
      · exact g5 x hx
    · rw [g6 k (by omega), f3 k, if_neg (by omega)]
    · have hrow : row.length = te.size := by omega
      by_cases hlt : k < te.size
      · refine ⟨val.cells[k], ?_, ?_⟩
        · rw [g6 _ (by omega), f3, if_pos (by omega), show i * te.size + k - i * te.size = k by omega]
          simp [c2, hlt]
        · have e : (row :: rows).flatten[k] = row[k] := by
            simp only [List.flatten_cons]
            exact List.getElem_append_left _
          rw [e]
          have := row_of hll hrl hr (g := fun i => val.cells.getD i undef) (fun i h1 => by
            have h2 : i < val.cells.size := by omega
            have := c3 i h1 h2
            simpa [h2] using this) k (by omega)
          have h2 : k < val.cells.size := by omega
          simpa [h2] using this
      · simp only [List.flatten_cons, List.length_append] at hk
        obtain ⟨v', q1, q2⟩ := g7 (k - te.size) (by omega)
        refine ⟨v', ?_, ?_⟩
        · rw [hsucc, show i * te.size + te.size + (k - te.size) = i * te.size + k by omega] at q1; exact q1
        · have e : (row :: rows).flatten[k] = rows.flatten[k - te.size]'(by omega) := by
            simp only [List.flatten_cons]
            rw [List.getElem_append_right (by omega)]
            simp only [hrow]
          rw [e]
          exact q2

theorem refs_fill {β : Type} {len : Nat} : ∀ {parts : List (Nat × AV)} {cp : List (Nat × Value)} {i : Nat} {cs : Array Value} {K : List AC → Option β} {r : β}, PartsR E w F ρ parts cp → cs.size = len →
    refsOfK len i parts K = some r → ∃ (l : List AC) (cs' : Array Value), K l = some r ∧ Instr.fill (fun i => some (i * 1, 1)) cs cp = some cs' ∧ cs'.size = cs.size ∧ i + l.length = len ∧
      (∀ k, k < i → cs'[k]? = cs[k]?) ∧ ∀ (k : Nat) (h : k < l.length), ∃ v, cs'[i + k]? = some v ∧ AR E w F ρ l[k] v none := by
  intro parts cp i cs K r hp
  induction hp generalizing i cs K with
  | nil =>
    intro hs h
    simp only [refsOfK] at h
    obtain ⟨h1, h2⟩ := cond_none_some h
    exact ⟨[], cs, h2, rfl, rfl, by simpa using Nat.eq_of_beq_eq_true h1, fun _ _ => rfl, fun k h => by simp at h⟩
  | cons j v val rest rest' hv hrest ih =>
    intro hs h
    have hroom : ∀ {parts : List (Nat × AV)} {i : Nat} {K : List AC → Option β}, refsOfK len i parts K = some r → i ≤ len := by
      intro parts
      induction parts with
      | nil => intro i K h; simp only [refsOfK] at h; have := Nat.eq_of_beq_eq_true (cond_none_some h).1; omega
      | cons q parts ihp =>
        intro i K h
        obtain ⟨q1, q2⟩ := q
        simp only [refsOfK] at h
        obtain ⟨_, h⟩ := cond_none_some h
        split at h
        · have := ihp h; omega
        · have := ihp h; omega
        · cases h
    simp only [refsOfK] at h
    obtain ⟨hij, h1⟩ := cond_none_some h
    have := Nat.eq_of_beq_eq_true hij
    subst this
    have main : ∀ (c : AC), v = .one c → refsOfK len (i + 1) rest (fun rs => K (c :: rs)) = some r → AR E w F ρ c val none → ∃ (l : List AC) (cs' : Array Value), K l = some r ∧ Instr.fill (fun i => some (i * 1, 1)) cs ((i, val) :: rest') = some cs' ∧ cs'.size = cs.size ∧ i + l.length = len ∧
      (∀ k, k < i → cs'[k]? = cs[k]?) ∧ ∀ (k : Nat) (h : k < l.length), ∃ v, cs'[i + k]? = some v ∧ AR E w F ρ l[k] v none := by
      intro c hc h2 hrel
      have hlen := hroom h2
      have hcell := hrel.oneCell.1
      obtain ⟨cs1, f1, f2, f3⟩ := fill_one (place := fun i => some (i * 1, 1)) (i := i) (v := val) (rest := rest') (cs := cs) rfl (by rw [hcell]; rfl) (by omega)
      obtain ⟨l, cs', g1, g2, g3, g4, g6, g7⟩ := ih (i := i + 1) (cs := cs1) (by omega) h2
      refine ⟨c :: l, cs', g1, by rw [f1]; exact g2, by omega, by simp; omega, fun k hk => ?_, fun k hk => ?_⟩
      · rw [g6 k (by omega), f3 k, if_neg (by omega)]
      · cases k with
        | zero =>
          refine ⟨val, ?_, hrel⟩
          rw [g6 _ (by omega), f3, if_pos (by omega), hcell]
          simp
        | succ k =>
          obtain ⟨v', q1, q2⟩ := g7 k (by simpa using hk)
          exact ⟨v', by rw [show i + (k + 1) = i + 1 + k by omega]; exact q1, q2⟩
    split at h1
    · exact main _ rfl h1 (by have := hv.get_one; exact this)
    · exact main _ rfl h1 (by have := hv.get_one; exact this)
    · cases h1

/-- places of a block that was not there are nobody's -/
theorem fresh_free (h : Rel E R ρ own N st a w) {B off : Nat} (hB : w.heap.size ≤ B) : ¬ Fn own R B off := by
  rintro (hR | ⟨x, t, hx, _⟩)
  · have := h.low _ _ hR; omega
  · have := (h.out _ _ _ hx).1; omega

theorem zeroArr_size (zs : Array Value) (n : Nat) : ((Array.range n).map (zs[· % zs.size]!)).size = n := by simp

theorem buildSlice_sound (G : Good P E) (h : Rel E R ρ own N st a w) {t : TypeId} {len : Nat} {parts : List (Nat × AV)} {cp : List (Nat × Value)} (hp : PartsR E w (Fn own R) ρ parts cp) {u : Upd} (hu : buildSliceK E t len parts some = some u) {dst : Option Nat} (hd : ∀ d, dst = some d → d < N) :
    ∃ val w', (Instr.buildSlice t len cp.toArray).run P w = .ok val w' ∧ After E R ρ own N w (st.apply dst u) (a.put dst val) w' := by
  unfold buildSliceK at hu
  cases ht : E.tys t with
  | none => simp [ht] at hu
  | some ty =>
    simp only [ht] at hu
    cases hd' : ty.desc <;> simp only [hd'] at hu <;> try (cases hu; done)
    rename_i e
    cases he : E.tys e with
    | none => simp [he] at hu
    | some te =>
      simp only [he] at hu
      obtain ⟨hlim, h1⟩ := cond_none_some hu
      have hlim : len * te.size ≤ 16777216 := Nat.le_of_ble_eq_true hlim
      have hT := G.ty e te he
      obtain ⟨z, hz, _⟩ := hT.run_zero (w := w)
      have hrun : ∀ (cs' : Array Value), (∀ zs : Array Value, Instr.fill (fun i => some (i * te.size, te.size)) ((Array.range (len * te.size)).map (zs[· % zs.size]!)) cp = some cs' ∨ (len * te.size ≠ 0 ∧ zs ≠ z.cells) ∨ (len * te.size = 0 ∧ zs ≠ #[])) →
          (Instr.buildSlice t len cp.toArray).run P w = .ok (.slice (some ⟨w.heap.size, 0, none⟩) len len) (w.alloc (.cells cs' e)) := by
        intro cs' hfill
        simp only [Instr.buildSlice, Sem.run_bind, run_underlying (desc_slice (G.ty _ _ ht) hd'), Result.andThen_ok, hT.run_size]
        rw [if_neg (by omega)]
        by_cases hz0 : len * te.size = 0
        · have := (hfill #[]).resolve_right (by simp [hz0])
          simp only [hz0, if_true]
          rw [hz0] at this
          simp only [this, Sem.run_bind, run_newRow, Result.andThen_ok, Sem.run_pure]
        · have := (hfill z.cells).resolve_right (by simp [hz0])
          simp only [hz0, if_false, Sem.run_bind, hz, Result.andThen_ok, Sem.run_pure, this, run_newRow]
      have hk : ∀ cs' : Array Value, w.keptBut (w.alloc (.cells cs' e)) (inT fun _ _ => False) := fun cs' => World.keptBut_alloc _ _ _
      -- what zeros lie below the parts
      let zs : Array Value := if len * te.size = 0 then #[] else z.cells
      have hzs : ∀ zs' : Array Value, zs' = zs ∨ (len * te.size ≠ 0 ∧ zs' ≠ z.cells) ∨ (len * te.size = 0 ∧ zs' ≠ #[]) := by
        intro zs'
        by_cases hz0 : len * te.size = 0
        · by_cases e1 : zs' = #[]
          · exact .inl (by simp [zs, hz0, e1])
          · exact .inr (.inr ⟨hz0, e1⟩)
        · by_cases e1 : zs' = z.cells
          · exact .inl (by simp [zs, hz0, e1])
          · exact .inr (.inl ⟨hz0, e1⟩)
      have rowsCase : rowsOfK te len 0 parts (fun rows => pureK (.one (.sl true e rows)) some) = some u → ∃ val w', (Instr.buildSlice t len cp.toArray).run P w = .ok val w' ∧ After E R ρ own N w (st.apply dst u) (a.put dst val) w' := by
        intro h2
        obtain ⟨rows, cs', g1, g2, g3, g4, g5, _, g7⟩ := rows_fill hT.len hp (cs := (Array.range (len * te.size)).map (zs[· % zs.size]!)) (by simp) h2
        refine ⟨_, _, hrun cs' fun zs' => (hzs zs').imp (fun e => by rw [e]; exact g2) id, ?_⟩
        rw [ofK g1]
        have hlen : rows.length = len := by omega
        have hfl := flat_len (even_of hT.len g5)
        have hsz : cs'.size = len * te.size := by rw [g3]; simp
        refine h.pure hd (hk cs') fun F' hK hF => .of ?_
        rw [← hlen]
        refine .full _ _ _ _ (.slice e rows te _ 0 _ (fun i => cs'.getD i undef) he g5 (Nat.le_refl _) (fun i hi => ⟨?_, fun hc => ?_⟩) fun i hi => ?_)
        · have hi2 : i < cs'.size := by rw [hsz, ← hlen, ← hfl]; exact hi
          rw [Nat.zero_add, cell_new _ _ _ _ hi2]
          simp [hi2]
        · exact fresh_free h (Nat.le_refl _) (hF _ _ hc)
        · obtain ⟨v, q1, q2⟩ := g7 i hi
          simp only [Nat.zero_mul, Nat.zero_add] at q1
          have : cs'.getD i undef = v := by simp [q1]
          rw [this]
          exact q2.keep hK
      split at h1
      · rename_i e' hde
        have hs1 : te.size = 1 := by
          obtain ⟨d, _, h2⟩ := hT.desc
          unfold DescOk at h2
          rw [hde] at h2
          cases d <;> simp_all
          rw [← hT.len, h2.2]; rfl
        obtain ⟨l, cs', g1, g2, g3, g4, _, g7⟩ := refs_fill hp (cs := (Array.range (len * te.size)).map (zs[· % zs.size]!)) (by simp [hs1]) h1
        refine ⟨_, _, hrun cs' fun zs' => (hzs zs').imp (fun e => by rw [e, hs1]; rw [hs1] at g2; exact g2) id, ?_⟩
        rw [ofK g1]
        have hlen : l.length = len := by omega
        have hsz : cs'.size = len := by rw [g3]; simp [hs1]
        refine h.pure hd (hk cs') fun F' hK hF => .of ?_
        rw [← hlen]
        refine .refs l _ 0 _ (fun i => cs'.getD i undef) (Nat.le_refl _) (fun i hi => ⟨?_, fun hc => ?_⟩) fun i hi => ?_
        · have hi2 : i < cs'.size := by omega
          rw [Nat.zero_add, cell_new _ _ _ _ hi2]
          simp [hi2]
        · exact fresh_free h (Nat.le_refl _) (hF _ _ hc)
        · obtain ⟨v, q1, q2⟩ := g7 i hi
          simp only [Nat.zero_add] at q1
          have : cs'.getD i undef = v := by simp [q1]
          rw [this]
          exact q2.keep hK (fun _ _ h => h) fun B t e => by cases e
      · exact rowsCase h1

end Go.Abs
