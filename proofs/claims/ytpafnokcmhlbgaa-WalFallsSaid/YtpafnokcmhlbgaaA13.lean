/-
  Slices made, conversions, and the built-in append.
-/
import Derived.Test.YtpafnokcmhlbgaaA12
import Derived.Laws.Rows
import Derived.Laws.AppendOwn
namespace Go.Abs

variable {E : Env} {P : Program} {R : Places} {ρ : List Nat} {own : OI → Owner} {N : Nat} {st : St} {a : Act} {w : World} {F : Places}

theorem wrap_small {n : Int} (h0 : 0 ≤ n) (h : n ≤ 9223372036854775807) : IntKind.i64.wrap n = n := by
  have e : IntKind.i64.wrap n = if (IntKind.i64.signed && decide (n % 2 ^ IntKind.i64.bits ≥ 2 ^ (IntKind.i64.bits - 1))) = true then n % 2 ^ IntKind.i64.bits - 2 ^ IntKind.i64.bits else n % 2 ^ IntKind.i64.bits := rfl
  have h1 : (2 : Int) ^ IntKind.i64.bits = 18446744073709551616 := by decide
  have h2 : (2 : Int) ^ (IntKind.i64.bits - 1) = 9223372036854775808 := by decide
  rw [e, h1, h2]
  have : n % 18446744073709551616 = n := by omega
  rw [this, if_neg]
  simp [IntKind.signed]
  omega

theorem fits_le {n : Nat} (h : fits n = true) : n ≤ 4294967296 := Nat.le_of_ble_eq_true h

/-- the slot's value owns from t' on in a block of its own -/
def own1 (q : Owner) : Owners
  | [] => q
  | _ => none

theorem own1_some {q : Owner} {p : List Nat} {B t : Nat} (h : own1 q p = some (B, t)) : p = [] ∧ q = some (B, t) := by
  cases p with
  | nil => exact ⟨rfl, h⟩
  | cons => cases h

theorem AVR.own1 {c : AC} {v : Value} {q : Owner} (h : AR E w F ρ c v q) : AVR E w F ρ (.one c) v (own1 q) := .one _ _ _ h fun p hp => by
  cases p with
  | nil => exact absurd rfl hp
  | cons => rfl

/-- a slice in a new block, which it owns behind its last element -/
theorem Rel.newSlice (h : Rel E R ρ own N st a w) {dst dis : Option Nat} {c : AC} {val : Value} {q : Owner} {w' : World} {B : Nat} {rd : List Nat} (hd : ∀ d, dst = some d → d < N) (hk : w.keptBut w' (inT fun _ _ => False)) (hB1 : w.heap.size ≤ B) (hB2 : B < w'.heap.size)
    (hq : ∀ B' t, q = some (B', t) → B' = B)
    (hV : ∀ F', Keeps w (Fn own R) w' F' → (∀ off, F' B off → ∃ t, q = some (B, t) ∧ t ≤ off) → AR E w' F' ρ c val q) :
    After E R ρ own N w (st.apply dst ⟨.one c, dis, [], [], rd⟩) (a.put dst val) w' := by
  refine ⟨ρ, _, fun _ _ h => h, h.put (dis := dis) (oV := own1 q) (T := fun _ _ => False) hd hk (fun _ _ h => h.elim) (fun p B' t' e => ?_) (fun p p' B' t t' e e' => ?_) fun hK => AVR.own1 (hV _ hK fun off hF => ?_)⟩
  · obtain ⟨_, e⟩ := own1_some e
    have := hq _ _ e
    exact .inr ⟨by omega, by omega⟩
  · rw [(own1_some e).1, (own1_some e').1]
  · rcases hF with hR | ⟨x, t, hx, hl⟩
    · have := h.low _ _ hR; omega
    · cases x with
      | tmp s p =>
        simp only [ownSet] at hx
        split at hx
        · obtain ⟨_, e⟩ := own1_some hx; exact ⟨t, e, hl⟩
        · have := (h.out _ _ _ (ownDis_sub hx)).1; omega
      | self k => have := (h.out (.self k) B t hx).1; omega
      | cell k j => have := (h.out (.cell k j) B t hx).1; omega

theorem makeSlice_sound (G : Good P E) (h : Rel E R ρ own N st a w) {t : TypeId} {x y : AV} {vx vy : Value} {px py : Owners} (hx : AVR E w (Fn own R) ρ x vx px) (hy : AVR E w (Fn own R) ρ y vy py) {u : Upd} (hu : makeSliceK E t x y some = some u) {dst : Option Nat} (hd : ∀ d, dst = some d → d < N) :
    ∃ val w', (Instr.makeSlice t vx vy).run P w = .ok val w' ∧ After E R ρ own N w (st.apply dst u) (a.put dst val) w' := by
  unfold makeSliceK at hu
  cases ht : E.tys t with
  | none => simp [ht] at hu
  | some ty =>
    simp only [ht] at hu
    cases hd' : ty.desc <;> simp only [hd'] at hu <;> try (cases hu; done)
    rename_i e
    split at hu <;> try (cases hu; done)
    rename_i te n m he hn hm
    obtain ⟨hbt, h1⟩ := cond_none_some hu
    obtain ⟨hb, h2⟩ := cond_none_some h1
    have hbt := Nat.le_of_ble_eq_true hbt
    have hT := G.ty e te he
    unfold okMake at hb
    simp only [Bool.and_eq_true, decide_eq_true_eq] at hb
    obtain ⟨⟨hb0, hnm⟩, hb2⟩ := hb
    have hb2 := fits_le hb2
    obtain ⟨zl, h3, h4, h5⟩ := zerosK_some h2
    obtain ⟨row, h6, hk, hrl, hll, hr⟩ := rowK_some h3
    obtain ⟨z, hz, hz2⟩ := hT.run_zero (w := w)
    obtain ⟨hzs, _⟩ := zero_cell hz2
    have hs : z.cells.size = te.size := by rw [hzs, hT.len]
    have hpos := hT.pos
    unfold asI at hn hm
    split at hn <;> try (cases hn; done)
    rename_i k1 n1
    cases hn
    split at hm <;> try (cases hm; done)
    rename_i k2 m1
    cases hm
    rw [hx.get_int, hy.get_int]
    have hm9 : m ≤ 4294967296 := by omega
    have hwn := wrap_small (n := n) hb0 (by omega)
    have hwm := wrap_small (n := m) (by omega) (by omega)
    obtain ⟨i, hi1, hi2⟩ := hT.run_bytes
    have htoo : ∀ q : Int, 0 ≤ q → q ≤ 4294967296 → (decide (q < 0) || decide ((te.bytes : Int) * q > 2 ^ 48)) = false := by
      intro q q1 q2
      have h7 : (te.bytes : Int) * q ≤ 4096 * 4294967296 := Int.mul_le_mul (by omega) q2 q1 (by omega)
      simp only [Bool.or_eq_false_iff, decide_eq_false_iff_not]
      constructor <;> omega
    have hrun : ∃ zs : Array Value, (m.toNat * te.size ≠ 0 → zs = z.cells) ∧ (Instr.makeSlice t (.int k1 n) (.int k2 m)).run P w = .ok (.slice (some ⟨w.heap.size, 0, none⟩) n.toNat m.toNat) (w.alloc (.cells ((Array.range (m.toNat * te.size)).map (zs[· % zs.size]!)) e)) := by
      have h8 := htoo m (by omega) hm9
      by_cases hz0 : m.toNat * te.size = 0
      · refine ⟨#[], fun hc => absurd hz0 hc, ?_⟩
        simp only [Instr.makeSlice, Sem.run_bind, run_underlying (desc_slice (G.ty _ _ ht) hd'), Result.andThen_ok, asInt, asIntOf, Sem.run_pure, typeInfo, run_program, hi1, hi2, hwn, hwm, h8]
        rw [if_neg (by simp; omega)]
        simp only [Sem.run_bind, run_askRoom, Result.andThen_ok, hT.run_size, hz0, if_true, Sem.run_pure, run_newRow]
      · refine ⟨z.cells, fun _ => rfl, ?_⟩
        simp only [Instr.makeSlice, Sem.run_bind, run_underlying (desc_slice (G.ty _ _ ht) hd'), Result.andThen_ok, asInt, asIntOf, Sem.run_pure, typeInfo, run_program, hi1, hi2, hwn, hwm, h8]
        rw [if_neg (by simp; omega)]
        simp only [Sem.run_bind, run_askRoom, Result.andThen_ok, hT.run_size, hz0, if_false, hz, Sem.run_pure, run_newRow]
    obtain ⟨zs, hzs', hrun⟩ := hrun
    refine ⟨_, _, hrun, ?_⟩
    rw [ofK h6]
    have hlrow : row.length = te.size := by rw [hrl, h4, hT.len]
    have hkeep := World.keptBut_alloc w (.cells ((Array.range (m.toNat * te.size)).map (zs[· % zs.size]!)) e) (inT fun _ _ => False)
    have hcells : ∀ k, k < m.toNat * te.size → cell (w.alloc (.cells ((Array.range (m.toNat * te.size)).map (zs[· % zs.size]!)) e)) w.heap.size k = some (z.cells.getD (k % te.size) undef) := by
      intro k hk'
      rw [cell_new _ _ _ _ (by simpa using hk')]
      have hz' : zs = z.cells := hzs' (by omega)
      have hlt : k % te.size < z.cells.size := by rw [hs]; exact Nat.mod_lt _ (by omega)
      simp [hz', hs, hs ▸ hlt]
    have hev : ∀ r ∈ List.replicate n.toNat row, r.map Cell.kind = te.kinds := fun r hr' => by
      rw [(List.mem_replicate.1 hr').2]; exact hk
    have hfl := flat_len (even_of hT.len hev)
    simp only [List.length_replicate] at hfl
    have hnm' : n.toNat * te.size ≤ m.toNat * te.size := Nat.mul_le_mul_right _ (by omega)
    have hCR : ∀ F', Keeps w (Fn own R) (w.alloc (.cells ((Array.range (m.toNat * te.size)).map (zs[· % zs.size]!)) e)) F' → (∀ off, off < n.toNat * te.size → ¬ F' w.heap.size off) →
        CR E (w.alloc (.cells ((Array.range (m.toNat * te.size)).map (zs[· % zs.size]!)) e)) F' (.slice e (List.replicate n.toNat row)) (.slice (some ⟨w.heap.size, 0, none⟩) n.toNat m.toNat) := by
      intro F' hK hF
      have hlen : n.toNat = (List.replicate n.toNat row).length := by simp
      conv => arg 5; rw [hlen]
      refine .slice e _ te _ 0 _ (fun i => z.cells.getD (i % te.size) undef) he hev (by simp; omega) (fun i hi => ⟨?_, ?_⟩) fun i hi => ?_
      · rw [Nat.zero_add]; exact hcells i (by omega)
      · rw [Nat.zero_add]; exact hF i (by omega)
      · have hdm : i = i / te.size * te.size + i % te.size := by rw [Nat.mul_comm]; exact (Nat.div_add_mod i te.size).symm
        have hmod : i % te.size < te.size := Nat.mod_lt _ (by omega)
        have hdiv : i / te.size < n.toNat := by
          rw [Nat.div_lt_iff_lt_mul (by omega)]; omega
        obtain ⟨q1, q2, q3⟩ := flat_get (even_of hT.len hev) (i := i / te.size) (j := i % te.size) (by simpa using hdiv) hmod
        have e2 : (List.replicate n.toNat row).flatten[i] = row[i % te.size]'(by omega) := by
          have : (List.replicate n.toNat row).flatten[i] = (List.replicate n.toNat row).flatten[i / te.size * te.size + i % te.size] := by
            congr 1
          rw [this, q3]
          simp only [List.getElem_replicate]
        rw [e2]
        have hlt : i % te.size < z.cells.size := by omega
        have := row_of hll hrl hr (E := E) (w := w) (F := Fn own R) (ρ := ρ) (g := fun i => z.cells.getD i undef) (fun j h1 => by
          have h2 : j < z.cells.size := by omega
          have := zeros_rel (E := E) (w := w) (F := Fn own R) (ρ := ρ) hz2 h4 h5 j h1 h2
          simpa [h2] using this) (i % te.size) (by omega)
        exact this.keep hK
    by_cases hfull : n = m
    · subst hfull
      refine h.newSlice (q := none) (B := w.heap.size) hd hkeep (Nat.le_refl _) (by simp) (fun _ _ e => by cases e) fun F' hK hF => .full _ _ _ _ (hCR F' hK fun off _ hc => ?_)
      obtain ⟨t, e, _⟩ := hF off hc; cases e
    · refine h.newSlice (q := some (w.heap.size, 0 + n.toNat * te.size)) (B := w.heap.size) hd hkeep (Nat.le_refl _) (by simp) (fun _ _ e => by cases e; rfl) fun F' hK hF => .own e _ te _ 0 _ _ (hCR F' hK fun off ho hc => ?_) he (by omega) fun j hj1 hj2 => ⟨⟨_, hcells j (by omega)⟩, cold_new ..⟩
      obtain ⟨t, e, hl⟩ := hF off hc
      cases e
      omega


/- CONVERSIONS -/

theorem toBytes_eq (r : Rows) : toBytes r = r.map rowByte := by induction r <;> simp_all [toBytes]
theorem ofBytes_eq (s : List UInt8) : ofBytes s = s.map byteRow := by induction s <;> simp_all [ofBytes]

theorem byte_kinds (G : Good P E) {e : TypeId} {te : Ty} (he : E.tys e = some te) (hd : te.desc = .int .u8) : te.kinds = [.int .u8] ∧ te.size = 1 := by
  have hT := G.ty e te he
  obtain ⟨d, _, h2⟩ := hT.desc
  unfold DescOk at h2
  rw [hd] at h2
  cases d <;> simp_all
  rw [← hT.len, h2.2]; rfl

theorem byte_rows {rows : Rows} (h : ∀ r ∈ rows, r.map Cell.kind = [CK.int .u8]) : ∀ (i : Nat) (hi : i < rows.length), ∃ n, rows[i] = [.int .u8 n] := by
  intro i hi
  have := h _ (List.getElem_mem hi)
  generalize rows[i] = r at this
  cases r with
  | nil => simp at this
  | cons c r => cases r with
    | cons d r => simp at this
    | nil =>
      cases c <;> simp [Cell.kind] at this
      subst this
      exact ⟨_, rfl⟩

theorem flat_one : ∀ {rows : Rows}, (∀ (i : Nat) (hi : i < rows.length), ∃ n, rows[i] = [.int .u8 n]) → rows.flatten.length = rows.length ∧ ∀ (i : Nat) (h1 : i < rows.flatten.length) (h2 : i < rows.length), [rows.flatten[i]] = rows[i]
  | [], _ => ⟨rfl, fun i h => by simp at h⟩
  | r :: rs, h => by
    obtain ⟨n, hr⟩ := h 0 (by simp)
    simp only [List.getElem_cons_zero] at hr
    subst hr
    obtain ⟨h1, h2⟩ := flat_one (rows := rs) fun i hi => h (i + 1) (by simpa using hi)
    refine ⟨by simp [h1], fun i g1 g2 => ?_⟩
    cases i with
    | zero => rfl
    | succ i => exact h2 i (by simpa [h1] using g2) (by simpa using g2)

theorem ofBytes_rel {w' : World} {e : TypeId} {te : Ty} {s : List UInt8} (he : E.tys e = some te) (hk : te.kinds = [.int .u8]) {B cap : Nat} (hc : s.length ≤ cap)
    (hm : ∀ (i : Nat) (hi : i < s.length), cell w' B i = some (.int .u8 s[i].toNat) ∧ ¬ F B i) : CR E w' F (.slice e (ofBytes s)) (.slice (some ⟨B, 0, none⟩) s.length cap) := by
  have hlen : (ofBytes s).length = s.length := by simp [ofBytes_eq]
  have hrow : ∀ (i : Nat) (hi : i < (ofBytes s).length), (ofBytes s)[i] = [.int .u8 (s[i]'(by omega)).toNat] := fun i hi => by simp [ofBytes_eq, byteRow]
  obtain ⟨f1, f2⟩ := flat_one (rows := ofBytes s) fun i hi => ⟨_, hrow i hi⟩
  rw [← hlen]
  refine .slice e _ te B 0 cap (fun i => .int .u8 (s.getD i 0).toNat) he (fun r hr => ?_) (by omega) (fun i hi => ?_) fun i hi => ?_
  · simp only [ofBytes_eq, List.mem_map] at hr
    obtain ⟨b, _, rfl⟩ := hr
    rw [hk]; rfl
  · have hi2 : i < s.length := by omega
    have := hm i hi2
    rw [Nat.zero_add]
    simpa [List.getD, List.getElem?_eq_getElem hi2] using this
  · have hi2 : i < (ofBytes s).length := by omega
    have hi3 : i < s.length := by omega
    have h3 := f2 i hi hi2
    rw [hrow i hi2] at h3
    have h4 : (ofBytes s).flatten[i] = .int .u8 s[i].toNat := by injection h3
    rw [h4]
    have h5 : s.getD i 0 = s[i] := by simp [List.getD, List.getElem?_eq_getElem hi3]
    rw [h5]
    exact .int _ _

theorem bytesWorld_kept (w : World) (e : TypeId) (s : ByteArray) (T : Places) : w.keptBut (Lib.bytesWorld w e s) (inT T) := by
  have h1 : w.keptBut (w.alloc (.cells #[] e)) (inT T) := World.keptBut_alloc _ _ _
  refine ⟨by simp [Lib.bytesWorld, World.freeze, World.alloc, World.drew, -World.alloc_eq, -World.drew_eq], by simp [Lib.bytesWorld, World.freeze, World.alloc, World.drew, -World.alloc_eq, -World.drew_eq], fun i hi => ?_⟩
  rw [Lib.bytesWorld_at_old w e s i hi]
  have := h1.2.2 i hi
  have e2 : (w.alloc (.cells #[] e)).heap[i]? = w.heap[i]? := heap_alloc_old w _ i hi
  rwa [e2] at this

theorem conv_sound (G : Good P E) (h : Rel E R ρ own N st a w) {src dst : TypeId} {x : AV} {vx : Value} {px : Owners} {F0 : Places} (hx : AVR E w F0 ρ x vx px) {u : Upd} (hu : convK E src dst x some = some u) {d : Option Nat} (hd : ∀ k, d = some k → k < N) :
    ∃ val w', (convert src dst vx).run P w = .ok val w' ∧ After E R ρ own N w (st.apply d u) (a.put d val) w' := by
  unfold convK at hu
  split at hu <;> try (cases hu; done)
  rename_i ts td hs ht
  obtain ⟨ds, hds, _⟩ := (G.ty _ _ hs).desc
  have hTd := G.ty _ _ ht
  split at hu <;> try (cases hu; done)
  · -- a number
    rename_i k n
    cases hdd : td.desc <;> simp only [hdd] at hu <;> try (cases hu; done)
    rename_i k'
    rw [hx.get_int]
    refine ⟨.int k' (k'.wrap n), w, ?_, by rw [ofIntK hu]; exact h.pure0 hd AVR.int⟩
    simp [convert, run_underlying hds, run_underlying (desc_int hTd hdd), Conv.intToInt]
  · rename_i s
    rw [hx.get_str]
    cases hdd : td.desc <;> simp only [hdd] at hu <;> try (cases hu; done)
    · refine ⟨.string ⟨s.toArray⟩, w, ?_, by rw [ofK hu]; exact h.pure0 hd (.of (.str _))⟩
      simp [convert, run_underlying hds, run_underlying (desc_str hTd hdd)]
    · rename_i e
      cases he : E.tys e with
      | none => simp [he] at hu
      | some te =>
        simp only [he] at hu
        cases hde : te.desc <;> simp only [hde] at hu <;> try (cases hu; done)
        rename_i k
        cases k <;> simp only at hu <;> try (cases hu; done)
        obtain ⟨_, hu⟩ := cond_none_some hu
        obtain ⟨hk, hsz⟩ := byte_kinds G he hde
        have hrun := Lib.run_convert_string_bytes (P := P) w src dst e ⟨s.toArray⟩ hds (desc_slice hTd hdd) (desc_int (G.ty _ _ he) hde)
        refine ⟨_, _, hrun, ?_⟩
        rw [ofK hu]
        have hcap : s.length ≤ grownCap w s.length 0 e := grownCap_ge w s.length 0 e
        have hsize : (⟨s.toArray⟩ : ByteArray).size = s.length := rfl
        rw [hsize]
        have hkept := bytesWorld_kept w e ⟨s.toArray⟩ (fun _ _ => False)
        have hB2 : w.heap.size < (Lib.bytesWorld w e ⟨s.toArray⟩).heap.size := by rw [Lib.bytesWorld_size]; omega
        have hcell : ∀ (i : Nat) (hi : i < s.length), cell (Lib.bytesWorld w e ⟨s.toArray⟩) w.heap.size i = some (.int .u8 s[i].toNat) := by
          intro i hi
          have := Lib.bytesWorld_cell w e ⟨s.toArray⟩ i hi
          rw [cell, this]
          simp [List.getD, List.getElem?_eq_getElem hi]
        have hnew := Lib.bytesWorld_at_new w e ⟨s.toArray⟩
        have hbc : (Lib.bytesCells w e ⟨s.toArray⟩).size = grownCap w s.length 0 e := by
          simp only [Lib.bytesCells, Array.size_append, Array.size_map, Array.size_replicate, hsize]
          have : (⟨s.toArray⟩ : ByteArray).data.size = s.length := rfl
          rw [this]; omega
        by_cases hfull : s.length = grownCap w s.length 0 e
        · rw [← hfull]
          refine h.newSlice (q := none) (B := w.heap.size) hd hkept (Nat.le_refl _) hB2 (fun _ _ e => by cases e) fun F' hK hF => .full _ _ _ _ (ofBytes_rel he hk (Nat.le_refl _) fun i hi => ⟨hcell i hi, fun hc => ?_⟩)
          obtain ⟨t, e, _⟩ := hF _ hc; cases e
        · refine h.newSlice (q := some (w.heap.size, 0 + s.length * te.size)) (B := w.heap.size) hd hkept (Nat.le_refl _) hB2 (fun _ _ e => by cases e; rfl) fun F' hK hF => .own e _ te _ 0 _ _ (ofBytes_rel he hk hcap fun i hi => ⟨hcell i hi, fun hc => ?_⟩) he (by omega) fun j hj1 hj2 => ?_
          · obtain ⟨t, e, hl⟩ := hF _ hc
            cases e
            rw [hsz] at hl
            omega
          · rw [hsz] at hj2
            have hj : j < (Lib.bytesCells w e ⟨s.toArray⟩).size := by omega
            refine ⟨⟨(Lib.bytesCells w e ⟨s.toArray⟩)[j], ?_⟩, ?_⟩
            · simp [cell, World.cell?, hnew, hj]
            · simp only [cold, World.frozen?, hnew]
              simp; omega
  · rename_i o e r
    split at hu <;> try (cases hu; done)
    rename_i e' te hdd hds' he
    cases hde : te.desc <;> simp only [hde] at hu <;> try (cases hu; done)
    rename_i k
    cases k <;> simp only at hu <;> try (cases hu; done)
    obtain ⟨hb, hu1⟩ := cond_none_some hu
    clear hu
    have := Nat.eq_of_beq_eq_true hb
    subst this
    obtain ⟨hk, hsz⟩ := byte_kinds G he hde
    have hus := desc_slice (G.ty _ _ hs) hds'
    have hue := desc_int (G.ty _ _ he) hde
    have hud := desc_str hTd hdd
    have hcr := hx.get_one.inv_sl
    refine ⟨.string ⟨(toBytes r).toArray⟩, w, ?_, by rw [ofK hu1]; exact h.pure0 hd (.of (.str _))⟩
    cases hcr with
    | empty _ b cap =>
      cases b with
      | none =>
        rw [run_convert_bytes_nil w src e hus hue 0 cap dst hud]
        rfl
      | some b =>
        have hl : (loadCells b 0).run P w = .ok (([] : List Int).map (Value.int .u8)).toArray w := rfl
        rw [run_convert_bytes_string w src dst e _ 0 cap hus hue hud, run_bytesToString w _ 0 cap [] hl]
        rfl
    | slice _ _ te' B off cap g he' hk' hc hm hr =>
      rw [he] at he'
      cases he'
      rw [hk] at hk'
      have hbr := byte_rows hk'
      obtain ⟨f1, f2⟩ := flat_one hbr
      have hrun := run_convert_bytes_arg (P := P) w src e hus hue B off r.length cap (r.map fun x => (cellAt x 0).toInt) (by simp) (fun i hi => by
        have hi1 : i < r.flatten.length := by omega
        obtain ⟨q1, _⟩ := hm i hi1
        have q2 := hr i hi1
        obtain ⟨n, hn⟩ := hbr i hi
        have q3 := f2 i hi1 hi
        rw [hn] at q3
        have q4 : r.flatten[i] = .int .u8 n := by injection q3
        rw [q4] at q2
        have q5 : g i = .int .u8 n := by
          generalize g i = y at q2
          cases q2; rfl
        rw [q5] at q1
        rw [← cell, q1]
        simp [List.getD, List.getElem?_eq_getElem hi, hn, cellAt, Cell.toInt]) dst hud
      rw [hrun]
      congr 2
      simp [strOfNums, toBytes_eq, rowByte, Function.comp_def]
  · split at hu <;> try (cases hu; done)
    rename_i e hdd hds'
    cases he : E.tys e with
    | none => simp [he] at hu
    | some te =>
      simp only [he] at hu
      cases hde : te.desc <;> simp only [hde] at hu <;> try (cases hu; done)
      rename_i k
      cases k <;> simp only at hu <;> try (cases hu; done)
      have hv := hx.get_one
      generalize px [] = q at hv
      cases hv
      refine ⟨.string ByteArray.empty, w, run_convert_bytes_nil w src e (desc_slice (G.ty _ _ hs) hds') (desc_int (G.ty _ _ he) hde) 0 0 dst (desc_str hTd hdd), by rw [ofK hu]; exact h.pure0 hd (.of (.str []))⟩

end Go.Abs
