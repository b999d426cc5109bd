/-
  The built-in append, and the smallest and the greatest of numbers.
-/
import Derived.Test.YtdgijohgncchiaaA13
namespace Go.Abs

variable {E : Env} {P : Program} {R : Places} {ρ : List Nat} {own : OI → Owner} {N : Nat} {st : St} {a : Act} {w : World} {F : Places}

theorem growBy_le {n : Nat} : ∀ (r c : Nat), c ≤ n + (n + 768) / 4 → Builtin.growBy n r c ≤ n + (n + 768) / 4
  | 0, c, h => h
  | r + 1, c, h => by
    unfold Builtin.growBy
    split
    · exact h
    · exact growBy_le r _ (by omega)

theorem nextcap_le {need cap : Nat} (h : cap < need) : Builtin.nextslicecap need cap ≤ 2 * need + 768 := by
  unfold Builtin.nextslicecap
  split
  · omega
  · split
    · omega
    · have := growBy_le (n := need) 4 cap (by omega)
      omega

/-- what an append takes: so many elements, their cells in order -/
structure Src (P : Program) (E : Env) (w : World) (F : Places) (s : Nat) (ks : List CK) (x : Value) (ys : Rows) (new : List Value) : Prop where
  len : ∀ w', (Builtin.lenOf x).run P w' = .ok ys.length w'
  run : ∀ w', (∀ B off, cell w' B off = cell w B off) → (Builtin.firstCells s ys.length x).run P w' = .ok new.toArray w'
  kinds : ∀ r ∈ ys, r.map Cell.kind = ks
  size : new.length = ys.flatten.length
  rel : ∀ (k : Nat) (h1 : k < ys.flatten.length) (h2 : k < new.length), CR E w F ys.flatten[k] new[k]

theorem src_slice (G : Good P E) {e : TypeId} {te : Ty} (he : E.tys e = some te) {ys : Rows} {x : Value} (h : CR E w F (.slice e ys) x) : ∃ new, Src P E w F te.size te.kinds x ys new := by
  cases h with
  | empty _ b cap =>
    refine ⟨[], fun w' => rfl, fun w' _ => ?_, by simp, rfl, fun k h => by simp at h⟩
    cases b <;> simp [Builtin.firstCells, loadCells, loadCellsFrom]
  | slice _ _ te' B off cap g he' hk hc hm hr =>
    rw [he] at he'
    cases he'
    have hfl := flat_len (even_of (G.ty _ _ he).len hk)
    refine ⟨(List.range (ys.length * te.size)).map g, fun w' => rfl, fun w' hw => ?_, hk, by simp [hfl], fun k h1 h2 => ?_⟩
    · simp only [Builtin.firstCells]
      exact run_loadCells w' ⟨B, off, none⟩ _ g fun j hj => by
        rw [add_none, ← cell, hw]
        exact (hm j (by omega)).1
    · simp only [List.getElem_map, List.getElem_range]
      exact hr k h1

theorem src_str (G : Good P E) {e : TypeId} {te : Ty} (he : E.tys e = some te) (hd : te.desc = .int .u8) (s : List UInt8) : ∃ new, Src P E w F te.size te.kinds (.string ⟨s.toArray⟩) (ofBytes s) new := by
  obtain ⟨hk, hs⟩ := byte_kinds G he hd
  have hlen : (ofBytes s).length = s.length := by simp [ofBytes_eq]
  have hrow : ∀ (i : Nat) (hi : i < (ofBytes s).length), (ofBytes s)[i] = [.int .u8 (s[i]'(by omega)).toNat] := fun i hi => by simp [ofBytes_eq, byteRow]
  obtain ⟨f1, f2⟩ := flat_one (rows := ofBytes s) fun i hi => ⟨_, hrow i hi⟩
  refine ⟨s.map fun b => .int .u8 b.toNat, fun w' => ?_, fun w' _ => ?_, fun r hr => ?_, by simp [f1, hlen], fun k h1 h2 => ?_⟩
  · rw [hlen]; rfl
  · simp only [Builtin.firstCells, hlen, Sem.run_pure]
    congr 1
    apply Array.ext'
    simp [ByteArray.data_extract, List.extract_eq_take_drop]
  · simp only [ofBytes_eq, List.mem_map] at hr
    obtain ⟨b, _, rfl⟩ := hr
    rw [hk]; rfl
  · have hi2 : k < (ofBytes s).length := by omega
    have h3 := f2 k h1 hi2
    rw [hrow k hi2] at h3
    have h4 : (ofBytes s).flatten[k] = .int .u8 (s[k]'(by omega)).toNat := by injection h3
    rw [h4]
    simp only [List.getElem_map]
    exact .int _ _

theorem src_nil {s : Nat} {ks : List CK} : Src P E w F s ks (.slice none 0 0) [] [] :=
  ⟨fun _ => rfl, fun w' _ => by simp [Builtin.firstCells], by simp, rfl, fun k h => by simp at h⟩

theorem run_app_room {t t2 ty0 e : TypeId} {i : TypeInfo} (hu : P.underlying t = some (.slice e)) (hi : P.info? e = some i) {d2 : TypeDesc} (hu2 : P.underlying t2 = some d2) (hd2 : (∃ e2, d2 = .slice e2) ∨ d2 = .string)
    {b : Option Addr} {len cap n : Nat} {x : Value} {new : List Value} {w' : World} (hroom : len + n ≤ cap) (hn : (Builtin.lenOf x).run P w = .ok n w) (hnew : (Builtin.firstCells i.size n x).run P w = .ok new.toArray w)
    (hst : match b with | some a => (storeCells (a.add (len * i.size)) new).run P w = .ok () w' | none => w' = w) :
    (Builtin.append_ #[t, t2] ty0 #[.slice b len cap, x]).run P w = .ok (.slice b (len + n) cap) w' := by
  rcases hd2 with ⟨e2, rfl⟩ | rfl
  · cases b with
    | none => subst hst; simp [Builtin.append_, run_underlying hu, run_underlying hu2, sizeOf, typeInfo, hi, hn, hroom, hnew]
    | some a => simp only at hst; simp [Builtin.append_, run_underlying hu, run_underlying hu2, sizeOf, typeInfo, hi, hn, hroom, hnew, hst]
  · cases b with
    | none => subst hst; simp [Builtin.append_, run_underlying hu, run_underlying hu2, sizeOf, typeInfo, hi, hn, hroom, hnew]
    | some a => simp only at hst; simp [Builtin.append_, run_underlying hu, run_underlying hu2, sizeOf, typeInfo, hi, hn, hroom, hnew, hst]

theorem run_app_grow {t t2 ty0 e : TypeId} {i : TypeInfo} {z : Value} (hu : P.underlying t = some (.slice e)) (hi : P.info? e = some i) (hz : i.zero = some z) {d2 : TypeDesc} (hu2 : P.underlying t2 = some d2) (hd2 : (∃ e2, d2 = .slice e2) ∨ d2 = .string)
    {b : Option Addr} {len cap n : Nat} {x : Value} {old new : List Value} (hroom : ¬ len + n ≤ cap) (hsmall : len + n ≤ 4294967296) (hby : i.bytes ≤ 4096) (hn : (Builtin.lenOf x).run P w = .ok n w)
    (hold : (Builtin.firstCells i.size len (.slice b len cap)).run P w.drew = .ok old.toArray w.drew) (hnew : (Builtin.firstCells i.size n x).run P w.drew = .ok new.toArray w.drew) :
    (Builtin.append_ #[t, t2] ty0 #[.slice b len cap, x]).run P w = .ok (.slice (some ⟨w.heap.size, 0, none⟩) (len + n) (grownCap w (len + n) cap e))
      (w.drew.alloc (.cells (old.toArray ++ (new.toArray ++ Builtin.zeroCells z.cells (grownCap w (len + n) cap e - (len + n)))) e)) := by
  have h1 : ¬ Builtin.nextslicecap (len + n) cap * i.bytes > 2 ^ 48 := by
    have h2 := nextcap_le (need := len + n) (cap := cap) (by omega)
    have h3 : Builtin.nextslicecap (len + n) cap * i.bytes ≤ 8589935360 * 4096 := Nat.mul_le_mul (by omega) hby
    omega
  have h4 : ¬ (9223372036854775807 : Int) < (len : Int) + n := by omega
  have hq : (Question.appendCap (len + n) cap e).forced = false := rfl
  rcases hd2 with ⟨e2, rfl⟩ | rfl
  · simp [Builtin.append_, run_underlying hu, run_underlying hu2, sizeOf, typeInfo, hi, hz, hn, hroom, h1, h4, hq, hold, hnew, zeroValue, newRow, grownCap]
  · simp [Builtin.append_, run_underlying hu, run_underlying hu2, sizeOf, typeInfo, hi, hz, hn, hroom, h1, h4, hq, hold, hnew, zeroValue, newRow, grownCap]


theorem getD_of {l : List Value} {i : Nat} (h : i < l.length) : l.getD i undef = l[i] := by simp [List.getD, List.getElem?_eq_getElem h]

theorem CR.oneCell {c : Cell} {v : Value} (h : CR E w F c v) : v.oneCell' = true := by cases h <;> rfl

theorem append_rows {e : TypeId} {te : Ty} (he : E.tys e = some te) {rows ys : Rows} {B off cap : Nat} {g : Nat → Value} {new : List Value}
    (hk : ∀ r ∈ rows, r.map Cell.kind = te.kinds) (hk2 : ∀ r ∈ ys, r.map Cell.kind = te.kinds) (hc : rows.length + ys.length ≤ cap) (hnl : new.length = ys.flatten.length)
    (h1 : ∀ (i : Nat) (hi : i < rows.flatten.length), cell w B (off + i) = some (g i) ∧ ¬ F B (off + i) ∧ CR E w F rows.flatten[i] (g i))
    (h2 : ∀ (i : Nat) (hi : i < ys.flatten.length) (hi2 : i < new.length), cell w B (off + rows.flatten.length + i) = some new[i] ∧ ¬ F B (off + rows.flatten.length + i) ∧ CR E w F ys.flatten[i] new[i]) :
    CR E w F (.slice e (rows ++ ys)) (.slice (some ⟨B, off, none⟩) (rows.length + ys.length) cap) := by
  have hlen : rows.length + ys.length = (rows ++ ys).length := by simp
  have hfl : (rows ++ ys).flatten = rows.flatten ++ ys.flatten := by simp
  rw [hlen]
  refine .slice e _ te B off cap (fun i => if i < rows.flatten.length then g i else new.getD (i - rows.flatten.length) undef) he (fun r hr => ?_) (by omega) (fun i hi => ?_) fun i hi => ?_
  · rcases List.mem_append.1 hr with h | h
    · exact hk r h
    · exact hk2 r h
  · rw [hfl, List.length_append] at hi
    by_cases hlt : i < rows.flatten.length
    · rw [if_pos hlt]; exact ⟨(h1 i hlt).1, (h1 i hlt).2.1⟩
    · rw [if_neg hlt]
      have h3 := h2 (i - rows.flatten.length) (by omega) (by omega)
      rw [show off + rows.flatten.length + (i - rows.flatten.length) = off + i by omega] at h3
      have h4 : new.getD (i - rows.flatten.length) undef = new[i - rows.flatten.length]'(by omega) := getD_of (by omega)
      rw [h4]
      exact ⟨h3.1, h3.2.1⟩
  · have hi' := hi
    rw [hfl, List.length_append] at hi'
    by_cases hlt : i < rows.flatten.length
    · rw [if_pos hlt]
      have e1 : (rows ++ ys).flatten[i] = rows.flatten[i] := by simp only [hfl]; exact List.getElem_append_left _
      rw [e1]
      exact (h1 i hlt).2.2
    · rw [if_neg hlt]
      have h3 := h2 (i - rows.flatten.length) (by omega) (by omega)
      have h4 : new.getD (i - rows.flatten.length) undef = new[i - rows.flatten.length]'(by omega) := getD_of (by omega)
      have e1 : (rows ++ ys).flatten[i] = ys.flatten[i - rows.flatten.length]'(by omega) := by simp only [hfl]; exact List.getElem_append_right (by omega)
      rw [h4, e1]
      exact h3.2.2

theorem slice_vals {e : TypeId} {rows : Rows} {b : Option Addr} {len cap : Nat} (h : CR E w F (.slice e rows) (.slice b len cap)) {te : Ty} (he : E.tys e = some te) :
    rows = [] ∨ ∃ (B off : Nat) (g : Nat → Value), b = some ⟨B, off, none⟩ ∧ (∀ r ∈ rows, r.map Cell.kind = te.kinds) ∧ ∀ (i : Nat) (hi : i < rows.flatten.length), cell w B (off + i) = some (g i) ∧ ¬ F B (off + i) ∧ CR E w F rows.flatten[i] (g i) := by
  cases h with
  | empty => exact .inl rfl
  | slice _ _ te' B off cap g he' hk hc hm hr =>
    rw [he] at he'
    cases he'
    exact .inr ⟨B, off, g, rfl, hk, fun i hi => ⟨(hm i hi).1, (hm i hi).2, hr i hi⟩⟩

/-- the step of an append, the source given -/
theorem app_sound (G : Good P E) (h : Rel E R ρ own N st a w) {t t2 ty0 e : TypeId} {te : Ty} (hu : P.underlying t = some (.slice e)) (he : E.tys e = some te) (hby : te.bytes ≤ 4096) {d2 : TypeDesc} (hu2 : P.underlying t2 = some d2) (hd2 : (∃ e2, d2 = .slice e2) ∨ d2 = .string)
    {rows ys : Rows} {vx x : Value} {q : Owner} (hx : AR E w (Fn own R) ρ (.sl true e rows) vx q) {new : List Value} (hs : Src P E w (Fn own R) te.size te.kinds x ys new) (hlim : rows.length + ys.length ≤ 4294967296)
    {dst dis : Option Nat} (hq : ∀ B s, q = some (B, s) → ∃ y, dis = some y ∧ own (.tmp y []) = some (B, s)) (hd : ∀ d, dst = some d → d < N) {rd : List Nat} :
    ∃ val w', (Builtin.append_ #[t, t2] ty0 #[vx, x]).run P w = .ok val w' ∧ After E R ρ own N w (st.apply dst ⟨.one (.sl true e (rows ++ ys)), dis, [], [], rd⟩) (a.put dst val) w' := by
  have hT := G.ty e te he
  have hpos := hT.pos
  obtain ⟨i, z, hi1, hi2, hi3, hi4, hi5⟩ := hT.info
  obtain ⟨hzs, _⟩ := zero_cell hi5
  obtain ⟨b, cap, rfl⟩ := hx.inv_slV
  obtain ⟨_, hcap⟩ := hx.inv_sl.inv_cap
  have hsn := hs.len w
  have hfly := flat_len (even_of hT.len hs.kinds)
  have hrv := slice_vals hx.inv_sl he
  have hflr : rows.flatten.length = rows.length * te.size := by
    rcases hrv with rfl | ⟨_, _, _, _, hk, _⟩
    · simp
    · exact flat_len (even_of hT.len hk)
  have hmul : (rows.length + ys.length) * te.size = rows.length * te.size + ys.length * te.size := Nat.add_mul ..
  by_cases hroom : rows.length + ys.length ≤ cap
  · -- in place
    have hxx := hx
    generalize hv : Value.slice b rows.length cap = v at hxx
    cases hxx with
    | full _ _ b' n hc =>
      cases hv
      have hy0 : ys.length = 0 := by omega
      have : ys = [] := List.eq_nil_of_length_eq_zero hy0
      subst this
      have hn0 : new = [] := List.eq_nil_of_length_eq_zero (by rw [hs.size]; rfl)
      subst hn0
      refine ⟨_, w, run_app_room (i := i) (new := []) (w' := w) hu hi1 hu2 hd2 (by simp) hsn (by rw [hi2]; exact hs.run w fun _ _ => rfl) (by cases b <;> rfl), ?_⟩
      have hAR : AR E w (Fn own R) ρ (.sl true e (rows ++ [])) (.slice b (rows.length + ([] : Rows).length) rows.length) none := by simpa using hx
      refine ⟨ρ, _, fun _ _ h => h, h.put (dis := dis) (oV := fun _ => none) (T := fun _ _ => False) hd (World.keptBut_refl _ _) (fun _ _ h => h.elim) (fun p B t' e => by cases e) (fun p p' B t t' e => by cases e) fun hK => .of (hAR.keep hK (fun _ _ h => h) fun B t e => by cases e)⟩
    | own _ _ te' B off len' cap' hc he' hl hsp =>
      cases hv
      rw [he] at he'
      cases he'
      obtain ⟨y, hy, hown⟩ := hq _ _ rfl
      have hone : ∀ v ∈ new, v.oneCell' = true := by
        intro v hv
        obtain ⟨k, hk, rfl⟩ := List.getElem_of_mem hv
        exact (hs.rel k (by rw [← hs.size]; exact hk) hk).oneCell
      have hnl : new.length = ys.length * te.size := by rw [hs.size, hfly]
      have hle : rows.length * te.size + new.length ≤ cap * te.size := by
        rw [hnl, ← hmul]; exact Nat.mul_le_mul_right _ hroom
      have hst := run_storeCells (P := P) new w B (off + rows.length * te.size) 0 hone (fun j hj => hsp _ (by omega) (by omega))
      have hk : w.keptBut (setRow w B (off + rows.length * te.size) new) (inT fun B' o' => B' = B ∧ off + rows.length * te.size ≤ o') := setRow_kept _ _ _ _ _ fun i _ => ⟨rfl, by omega⟩
      refine ⟨_, _, run_app_room (i := i) (new := new) hu hi1 hu2 hd2 hroom hsn (by rw [hi2]; exact hs.run w fun _ _ => rfl) (by simp only [hi2, add_none]; exact hst), ?_⟩
      let q' : Owner := if rows.length + ys.length < cap then some (B, off + (rows.length + ys.length) * te.size) else none
      have hq' : ∀ B' t, q' = some (B', t) → B' = B ∧ t = off + (rows.length + ys.length) * te.size := by
        intro B' t e
        simp only [q'] at e
        split at e <;> cases e
        exact ⟨rfl, rfl⟩
      refine ⟨ρ, _, fun _ _ h => h, h.put (dis := dis) (oV := own1 q') (T := fun B' o' => B' = B ∧ off + rows.length * te.size ≤ o') hd hk ?_ ?_ ?_ fun hK => AVR.own1 ?_⟩
      · rintro B' o' ⟨rfl, ho⟩
        exact ⟨y, [], _, hy, hown, ho⟩
      · intro p B' t' e
        obtain ⟨_, e⟩ := own1_some e
        obtain ⟨rfl, rfl⟩ := hq' _ _ e
        exact .inl ⟨y, [], _, hy, hown, by rw [hmul]; omega⟩
      · intro p p' B' t t' e e'
        rw [(own1_some e).1, (own1_some e').1]
      · -- the value
        have hF : ∀ j, j < (rows.length + ys.length) * te.size → rows.length * te.size ≤ j → ¬ Fn (ownSet (ownDis own dis) dst (own1 q')) R B (off + j) := by
          rintro j hj1 hj2 (hR | ⟨x', t', hx', hl'⟩)
          · exact (h.out _ _ _ hown).2 _ hR
          · have : ∀ {s p}, ownDis own dis (.tmp s p) = some (B, t') → False := by
              intro s p e
              have e2 := h.inj _ _ _ _ _ (ownDis_sub e) hown
              injection e2 with e3 e4
              subst e3
              simp [ownDis, hy] at e
            cases x' with
            | tmp s p =>
              simp only [ownSet] at hx'
              split at hx'
              · obtain ⟨_, e⟩ := own1_some hx'
                obtain ⟨_, rfl⟩ := hq' _ _ e
                omega
              · exact this hx'
            | self k => have := h.inj _ _ _ _ _ (show own (.self k) = _ from hx') hown; cases this
            | cell k j => have := h.inj _ _ _ _ _ (show own (.cell k j) = _ from hx') hown; cases this
        have hCR : CR E (setRow w B (off + rows.length * te.size) new) (Fn (ownSet (ownDis own dis) dst (own1 q')) R) (.slice e (rows ++ ys)) (.slice (some ⟨B, off, none⟩) (rows.length + ys.length) cap) := by
          have hkr : ∀ r ∈ rows, r.map Cell.kind = te.kinds := by
            rcases hrv with rfl | ⟨_, _, _, _, hk, _⟩
            · simp
            · exact hk
          obtain ⟨g, hg⟩ : ∃ g : Nat → Value, ∀ (i : Nat) (hi : i < rows.flatten.length), cell w B (off + i) = some (g i) ∧ ¬ Fn own R B (off + i) ∧ CR E w (Fn own R) rows.flatten[i] (g i) := by
            rcases hrv with rfl | ⟨B', off', g, hb, _, hg⟩
            · exact ⟨fun _ => undef, fun i hi => by simp at hi⟩
            · cases hb; exact ⟨g, hg⟩
          refine append_rows he hkr hs.kinds hroom hs.size (g := g) (fun i hi => ?_) fun i hi hi2 => ?_
          · obtain ⟨g1, g2, g3⟩ := hg i hi
            have := hK _ _ _ g1 g2
            exact ⟨this.1, this.2, g3.keep hK⟩
          · rw [hflr]
            obtain ⟨u, hu'⟩ := (hsp (off + rows.length * te.size + i) (by omega) (by omega)).1
            refine ⟨setRow_same new w B _ i hi2 ⟨u, hu'⟩, ?_, (hs.rel i hi hi2).keep hK⟩
            rw [Nat.add_assoc]
            exact hF _ (by omega) (by omega)
        by_cases hlt : rows.length + ys.length < cap
        · have : q' = some (B, off + (rows.length + ys.length) * te.size) := if_pos hlt
          rw [this]
          refine .own e _ te B off _ cap (by rw [this] at hCR; exact hCR) he hlt fun j hj1 hj2 => ?_
          obtain ⟨⟨u, hu'⟩, hcold⟩ := hsp j (by rw [hmul] at hj1; omega) hj2
          refine ⟨⟨u, ?_⟩, by rw [setRow_cold]; exact hcold⟩
          rw [setRow_other _ _ _ _ _ _ (by rw [hmul] at hj1; omega)]
          exact hu'
        · have hn : q' = none := if_neg hlt
          have hcc : rows.length + ys.length = cap := by omega
          rw [hn]
          rw [hn, hcc] at hCR
          rw [hcc]
          exact .full _ _ _ _ hCR
  · -- a new block
    have hdrew : ∀ B off, cell w.drew B off = cell w B off := fun _ _ => rfl
    obtain ⟨old, hold, hol, hoc⟩ : ∃ old : List Value, (Builtin.firstCells te.size rows.length (.slice b rows.length cap)).run P w.drew = .ok old.toArray w.drew ∧ old.length = rows.flatten.length ∧ ∀ (k : Nat) (h1 : k < rows.flatten.length) (h2 : k < old.length), CR E w (Fn own R) rows.flatten[k] old[k] := by
      obtain ⟨old, ho⟩ := src_slice (P := P) G he hx.inv_sl
      exact ⟨old, ho.run _ hdrew, ho.size, ho.rel⟩
    have hrun := run_app_grow (z := z) (ty0 := ty0) hu hi1 hi4 hu2 hd2 hroom hlim (by omega) hsn (by rw [hi2]; exact hold) (by rw [hi2]; exact hs.run _ hdrew)
    refine ⟨_, _, hrun, ?_⟩
    have hge := grownCap_ge w (rows.length + ys.length) cap e
    have hzsz : z.cells.size = te.size := by rw [hzs, hT.len]
    have hsize : (old.toArray ++ (new.toArray ++ Builtin.zeroCells z.cells (grownCap w (rows.length + ys.length) cap e - (rows.length + ys.length)))).size = grownCap w (rows.length + ys.length) cap e * te.size := by
      simp only [Array.size_append, List.size_toArray, size_zeroCells, hol, hs.size, hflr, hfly, hzsz]
      have : grownCap w (rows.length + ys.length) cap e * te.size = (rows.length + ys.length) * te.size + (grownCap w (rows.length + ys.length) cap e - (rows.length + ys.length)) * te.size := by
        rw [← Nat.add_mul]; congr 1; omega
      omega
    generalize hC : old.toArray ++ (new.toArray ++ Builtin.zeroCells z.cells (grownCap w (rows.length + ys.length) cap e - (rows.length + ys.length))) = C at hsize
    have hkeep : w.keptBut (w.drew.alloc (.cells C e)) (inT fun _ _ => False) := World.keptBut_alloc w.drew (.cells C e) _
    have hcell : ∀ j, j < C.size → cell (w.drew.alloc (.cells C e)) w.heap.size j = C[j]? := fun j hj => World.cell?_alloc_new w.drew C e j
    have hold' : ∀ (j : Nat) (hj : j < rows.flatten.length), C[j]? = some (old[j]'(by omega)) := by
      intro j hj
      rw [← hC, Array.getElem?_append_left (by rw [List.size_toArray]; omega)]
      simp [show j < old.length by omega]
    have hnew' : ∀ (j : Nat) (hj : j < ys.flatten.length), C[rows.flatten.length + j]? = some (new[j]'(by rw [hs.size]; exact hj)) := by
      intro j hj
      have h5 : j < new.length := by rw [hs.size]; exact hj
      rw [← hC, Array.getElem?_append_right (by rw [List.size_toArray]; omega), Array.getElem?_append_left (by rw [List.size_toArray, List.size_toArray]; omega), List.size_toArray, hol, Nat.add_sub_cancel_left]
      simp [h5]
    have hCs : (rows.length + ys.length) * te.size ≤ C.size := by rw [hsize]; exact Nat.mul_le_mul_right _ hge
    have hCR : ∀ F', Keeps w (Fn own R) (w.drew.alloc (.cells C e)) F' → (∀ o, o < (rows.length + ys.length) * te.size → ¬ F' w.heap.size o) →
        CR E (w.drew.alloc (.cells C e)) F' (.slice e (rows ++ ys)) (.slice (some ⟨w.heap.size, 0, none⟩) (rows.length + ys.length) (grownCap w (rows.length + ys.length) cap e)) := by
      intro F' hK hF
      have hkr : ∀ r ∈ rows, r.map Cell.kind = te.kinds := by
        rcases hrv with rfl | ⟨_, _, _, _, hk, _⟩
        · simp
        · exact hk
      refine append_rows he hkr hs.kinds hge hs.size (g := fun i => old.getD i undef) (fun i hi => ?_) fun i hi hi2 => ?_
      · have h6 : old.getD i undef = old[i]'(by omega) := getD_of (by omega)
        rw [Nat.zero_add, h6]
        exact ⟨by rw [hcell _ (by omega)]; exact hold' i hi, hF _ (by omega), (hoc i hi _).keep hK⟩
      · rw [Nat.zero_add]
        exact ⟨by rw [hcell _ (by omega)]; exact hnew' i hi, hF _ (by omega), (hs.rel i hi hi2).keep hK⟩
    by_cases hfull : rows.length + ys.length = grownCap w (rows.length + ys.length) cap e
    · refine h.newSlice (q := none) (B := w.heap.size) hd hkeep (Nat.le_refl _) (by simp) (fun _ _ e => by cases e) fun F' hK hF => ?_
      have := hCR F' hK fun o _ hc => by obtain ⟨t, e, _⟩ := hF o hc; cases e
      rw [← hfull] at this ⊢
      exact .full _ _ _ _ this
    · refine h.newSlice (q := some (w.heap.size, 0 + (rows.length + ys.length) * te.size)) (B := w.heap.size) hd hkeep (Nat.le_refl _) (by simp) (fun _ _ e => by cases e; rfl) fun F' hK hF => .own e _ te _ 0 _ _ (hCR F' hK fun o ho hc => ?_) he (by omega) fun j hj1 hj2 => ⟨⟨C[j]'(by omega), by rw [hcell _ (by omega)]; simp [show j < C.size by omega]⟩, World.frozen?_alloc_new ..⟩
      obtain ⟨t, e, hl⟩ := hF o hc
      cases e
      omega

end Go.Abs
