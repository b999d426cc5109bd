/-
  The built-in append, and the smallest and the greatest of numbers.
-/
import Derived.Test.YtkfniijfenkocaaA13
namespace Go.Abs

variable {E : Env} {P : Program} {R : Places} {ρ : List Nat} {own : OI → Owner} {N : Nat} {st : St} {a : Act} {w : World} {F : Places}

theorem growBy_le {n : Nat} : ∀ (r c : Nat), c ≤ n + (n + 768) / 4 → Builtin.growBy n r c ≤ n + (n + 768) / 4
  | 0, c, h => h
  | r + 1, c, h => by
    unfold Builtin.growBy
    split
    · exact h
    · exact growBy_le r _ (by omega)

theorem nextcap_le {need cap : Nat} (h : cap < need) : Builtin.nextslicecap need cap ≤ 2 * need + 768 := by
  unfold Builtin.nextslicecap
  split
  · omega
  · split
    · omega
    · have := growBy_le (n := need) 4 cap (by omega)
      omega

/-- what an append takes: so many elements, their cells in order -/
structure Src (P : Program) (E : Env) (w : World) (F : Places) (s : Nat) (ks : List CK) (x : Value) (ys : Rows) (new : List Value) : Prop where
  len : ∀ w', (Builtin.lenOf x).run P w' = .ok ys.length w'
  run : ∀ w', (∀ B off, cell w' B off = cell w B off) → (Builtin.firstCells s ys.length x).run P w' = .ok new.toArray w'
  kinds : ∀ r ∈ ys, r.map Cell.kind = ks
  size : new.length = ys.flatten.length
  rel : ∀ (k : Nat) (h1 : k < ys.flatten.length) (h2 : k < new.length), CR E w F ys.flatten[k] new[k]

theorem src_slice (G : Good P E) {e : TypeId} {te : Ty} (he : E.tys e = some te) {ys : Rows} {x : Value} (h : CR E w F (.slice e ys) x) : ∃ new, Src P E w F te.size te.kinds x ys new := by
  cases h with
  | empty _ b cap =>
    refine ⟨[], fun w' => rfl, fun w' _ => ?_, by simp, rfl, fun k h => by simp at h⟩
    cases b <;> simp [Builtin.firstCells, loadCells, loadCellsFrom]
  | slice _ _ te' B off cap g he' hk hc hm hr =>
    rw [he] at he'
    cases he'
    have hfl := flat_len (even_of (G.ty _ _ he).len hk)
    refine ⟨(List.range (ys.length * te.size)).map g, fun w' => rfl, fun w' hw => ?_, hk, by simp [hfl], fun k h1 h2 => ?_⟩
    · simp only [Builtin.firstCells]
      exact run_loadCells w' ⟨B, off, none⟩ _ g fun j hj => by
        rw [add_none, ← cell, hw]
        exact (hm j (by omega)).1
    · simp only [List.getElem_map, List.getElem_range]
      exact hr k h1

theorem src_str (G : Good P E) {e : TypeId} {te : Ty} (he : E.tys e = some te) (hd : te.desc = .int .u8) (s : List UInt8) : ∃ new, Src P E w F te.size te.kinds (.string ⟨s.toArray⟩) (ofBytes s) new := by
  obtain ⟨hk, hs⟩ := byte_kinds G he hd
  have hlen : (ofBytes s).length = s.length := by simp [ofBytes_eq]
  have hrow : ∀ (i : Nat) (hi : i < (ofBytes s).length), (ofBytes s)[i] = [.int .u8 (s[i]'(by omega)).toNat] := fun i hi => by simp [ofBytes_eq, byteRow]
  obtain ⟨f1, f2⟩ := flat_one (rows := ofBytes s) fun i hi => ⟨_, hrow i hi⟩
  refine ⟨s.map fun b => .int .u8 b.toNat, fun w' => ?_, fun w' _ => ?_, fun r hr => ?_, by simp [f1, hlen], fun k h1 h2 => ?_⟩
  · rw [hlen]; rfl
  · simp only [Builtin.firstCells, hlen, Sem.run_pure]
    congr 1
    apply Array.ext'
    simp [ByteArray.data_extract, List.extract_eq_take_drop]
  · simp only [ofBytes_eq, List.mem_map] at hr
    obtain ⟨b, _, rfl⟩ := hr
    rw [hk]; rfl
  · have hi2 : k < (ofBytes s).length := by omega
    have h3 := f2 k h1 hi2
    rw [hrow k hi2] at h3
    have h4 : (ofBytes s).flatten[k] = .int .u8 (s[k]'(by omega)).toNat := by injection h3
    rw [h4]
    simp only [List.getElem_map]
    exact .int _ _

theorem src_nil {s : Nat} {ks : List CK} : Src P E w F s ks (.slice none 0 0) [] [] :=
  ⟨fun _ => rfl, fun w' _ => by simp [Builtin.firstCells], by simp, rfl, fun k h => by simp at h⟩

theorem run_app_room {t t2 ty0 e : TypeId} {i : TypeInfo} (hu : P.underlying t = some (.slice e)) (hi : P.info? e = some i) {d2 : TypeDesc} (hu2 : P.underlying t2 = some d2) (hd2 : (∃ e2, d2 = .slice e2) ∨ d2 = .string)
    {b : Option Addr} {len cap n : Nat} {x : Value} {new : List Value} {w' : World} (hroom : len + n ≤ cap) (hn : (Builtin.lenOf x).run P w = .ok n w) (hnew : (Builtin.firstCells i.size n x).run P w = .ok new.toArray w)
    (hst : match b with | some a => (storeCells (a.add (len * i.size)) new).run P w = .ok () w' | none => w' = w) :
    (Builtin.append_ #[t, t2] ty0 #[.slice b len cap, x]).run P w = .ok (.slice b (len + n) cap) w' := by
  rcases hd2 with ⟨e2, rfl⟩ | rfl
  · cases b with
    | none => subst hst; simp [Builtin.append_, run_underlying hu, run_underlying hu2, sizeOf, typeInfo, hi, hn, hroom, hnew]
    | some a => simp only at hst; simp [Builtin.append_, run_underlying hu, run_underlying hu2, sizeOf, typeInfo, hi, hn, hroom, hnew, hst]
  · cases b with
    | none => subst hst; simp [Builtin.append_, run_underlying hu, run_underlying hu2, sizeOf, typeInfo, hi, hn, hroom, hnew]
    | some a => simp only at hst; simp [Builtin.append_, run_underlying hu, run_underlying hu2, sizeOf, typeInfo, hi, hn, hroom, hnew, hst]

theorem run_app_grow {t t2 ty0 e : TypeId} {i : TypeInfo} {z : Value} (hu : P.underlying t = some (.slice e)) (hi : P.info? e = some i) (hz : i.zero = some z) {d2 : TypeDesc} (hu2 : P.underlying t2 = some d2) (hd2 : (∃ e2, d2 = .slice e2) ∨ d2 = .string)
    {b : Option Addr} {len cap n : Nat} {x : Value} {old new : List Value} (hroom : ¬ len + n ≤ cap) (hsmall : len + n ≤ 4294967296) (hby : i.bytes ≤ 4096) (hn : (Builtin.lenOf x).run P w = .ok n w)
    (hold : (Builtin.firstCells i.size len (.slice b len cap)).run P w.drew = .ok old.toArray w.drew) (hnew : (Builtin.firstCells i.size n x).run P w.drew = .ok new.toArray w.drew) :
    (Builtin.append_ #[t, t2] ty0 #[.slice b len cap, x]).run P w = .ok (.slice (some ⟨w.heap.size, 0, none⟩) (len + n) (grownCap w (len + n) cap e))
      (w.drew.alloc (.cells (old.toArray ++ (new.toArray ++ Builtin.zeroCells z.cells (grownCap w (len + n) cap e - (len + n)))) e)) := by
  have h1 : ¬ Builtin.nextslicecap (len + n) cap * i.bytes > 2 ^ 48 := by
    have h2 := nextcap_le (need := len + n) (cap := cap) (by omega)
    have h3 : Builtin.nextslicecap (len + n) cap * i.bytes ≤ 8589935360 * 4096 := Nat.mul_le_mul (by omega) hby
    omega
  have h4 : ¬ (9223372036854775807 : Int) < (len : Int) + n := by omega
  have hq : (Question.appendCap (len + n) cap e).forced = false := rfl
  rcases hd2 with ⟨e2, rfl⟩ | rfl
  · simp [Builtin.append_, run_underlying hu, run_underlying hu2, sizeOf, typeInfo, hi, hz, hn, hroom, h1, h4, hq, hold, hnew, zeroValue, newRow, grownCap]
  · simp [Builtin.append_, run_underlying hu, run_underlying hu2, sizeOf, typeInfo, hi, hz, hn, hroom, h1, h4, hq, hold, hnew, zeroValue, newRow, grownCap]


theorem getD_of {l : List Value} {i : Nat} (h : i < l.length) : l.getD i undef = l[i] := by simp [List.getD, List.getElem?_eq_getElem h]

theorem CR.oneCell {c : Cell} {v : Value} (h : CR E w F c v) : v.oneCell' = true := by cases h <;> rfl

theorem append_rows {e : TypeId} {te : Ty} (he : E.tys e = some te) {rows ys : Rows} {B off cap : Nat} {g : Nat → Value} {new : List Value}
    (hk : ∀ r ∈ rows, r.map Cell.kind = te.kinds) (hk2 : ∀ r ∈ ys, r.map Cell.kind = te.kinds) (hc : rows.length + ys.length ≤ cap) (hnl : new.length = ys.flatten.length)
    (h1 : ∀ (i : Nat) (hi : i < rows.flatten.length), cell w B (off + i) = some (g i) ∧ ¬ F B (off + i) ∧ CR E w F rows.flatten[i] (g i))
    (h2 : ∀ (i : Nat) (hi : i < ys.flatten.length) (hi2 : i < new.length), cell w B (off + rows.flatten.length + i) = some new[i] ∧ ¬ F B (off + rows.flatten.length + i) ∧ CR E w F ys.flatten[i] new[i]) :
    CR E w F (.slice e (rows ++ ys)) (.slice (some ⟨B, off, none⟩) (rows.length + ys.length) cap) := by
  have hlen : rows.length + ys.length = (rows ++ ys).length := by simp
  have hfl : (rows ++ ys).flatten = rows.flatten ++ ys.flatten := by simp
  rw [hlen]
  refine .slice e _ te B off cap (fun i => if i < rows.flatten.length then g i else new.getD (i - rows.flatten.length) undef) he (fun r hr => ?_) (by omega) (fun i hi => ?_) fun i hi => ?_
  · rcases List.mem_append.1 hr with h | h
    · exact hk r h
    · exact hk2 r h
  · rw [hfl, List.length_append] at hi
    by_cases hlt : i < rows.flatten.length
    · rw [if_pos hlt]; exact ⟨(h1 i hlt).1, (h1 i hlt).2.1⟩
    · rw [if_neg hlt]
      have h3 := h2 (i - rows.flatten.length) (by omega) (by omega)
      rw [show off + rows.flatten.length + (i - rows.flatten.length) = off + i by omega] at h3
      have h4 : new.getD (i - rows.flatten.length) undef = new[i - rows.flatten.length]'(by omega) := getD_of (by omega)
      rw [h4]
      exact ⟨h3.1, h3.2.1⟩
  · have hi' := hi
    rw [hfl, List.length_append] at hi'
    by_cases hlt : i < rows.flatten.length
    · rw [if_pos hlt]
      have e1 : (rows ++ ys).flatten[i] = rows.flatten[i] := by simp only [hfl]; exact List.getElem_append_left _
      rw [e1]
      exact (h1 i hlt).2.2
    · rw [if_neg hlt]
      have h3 := h2 (i - rows.flatten.length) (by omega) (by omega)
      have h4 : new.getD (i - rows.flatten.length) undef = new[i - rows.flatten.length]'(by omega) := getD_of (by omega)
      have e1 : (rows ++ ys).flatten[i] = ys.flatten[i - rows.flatten.length]'(by omega) := by simp only [hfl]; exact List.getElem_append_right (by omega)
      rw [h4, e1]
      exact h3.2.2

theorem slice_vals {e : TypeId} {rows : Rows} {b : Option Addr} {len cap : Nat} (h : CR E w F (.slice e rows) (.slice b len cap)) {te : Ty} (he : E.tys e = some te) :
    rows = [] ∨ ∃ (B off : Nat) (g : Nat → Value), b = some ⟨B, off, none⟩ ∧ (∀ r ∈ rows, r.map Cell.kind = te.kinds) ∧ ∀ (i : Nat) (hi : i < rows.flatten.length), cell w B (off + i) = some (g i) ∧ ¬ F B (off + i) ∧ CR E w F rows.flatten[i] (g i) := by
  cases h with
  | empty => exact .inl rfl
  | slice _ _ te' B off cap g he' hk hc hm hr =>
    rw [he] at he'
    cases he'
    exact .inr ⟨B, off, g, rfl, hk, fun i hi => ⟨(hm i hi).1, (hm i hi).2, hr i hi⟩⟩

/-- the step of an append, the source given -/
theorem app_sound (G : Good P E) (h : Rel E R ρ own N st a w) {t t2 ty0 e : TypeId} {te : Ty} (hu : P.underlying t = some (.slice e)) (he : E.tys e = some te) (hby : te.bytes ≤ 4096) {d2 : TypeDesc} (hu2 : P.underlying t2 = some d2) (hd2 : (∃ e2, d2 = .slice e2) ∨ d2 = .string)
    {rows ys : Rows} {vx x : Value} {q : Owner} (hx : AR E w (Fn own R) ρ (.sl true e rows) vx q) {new : List Value} (hs : Src P E w (Fn own R) te.size te.kinds x ys new) (hlim : rows.length + ys.length ≤ 4294967296)
    {dst dis : Option Nat} (hq : ∀ B s, q = some (B, s) → ∃ y, dis = some y ∧ own (.tmp y []) = some (B, s)) (hd : ∀ d, dst = some d → d < N) {rd : List Nat} :
    ∃ val w', (Builtin.append_ #[t, t2] ty0 #[vx, x]).run P w = .ok val w' ∧ After E R ρ own N w (st.apply dst ⟨.one (.sl true e (rows ++ ys)), dis, [], [], rd⟩) (a.put dst val) w' := by
  have hT := G.ty e te he
  have hpos := hT.pos
  obtain ⟨i, z, hi1, hi2, hi3, hi4, hi5⟩ := hT.info
  obtain ⟨hzs, _⟩ := zero_cell hi5
  obtain ⟨b, cap, rfl⟩ := hx.inv_slV
  obtain ⟨_, hcap⟩ := hx.inv_sl.inv_cap
  have hsn := hs.len w
  have hfly := flat_len (even_of hT.len hs.kinds)
  have hrv := slice_vals hx.inv_sl he
  have hflr : rows.flatten.length = rows.length * te.size := by
    rcases hrv with rfl | ⟨_, _, _, _, hk, _⟩
    · simp
    · exact flat_len (even_of hT.len hk)
  have hmul : (rows.length + ys.length) * te.size = rows.length * te.size + ys.length * te.size := Nat.add_mul ..
  by_cases hroom : rows.length + ys.length ≤ cap
  · -- in place
    have hxx := hx
    generalize hv : Value.slice b rows.length cap = v at hxx
    cases hxx with
    | full _ _ b' n hc =>
      cases hv
      have hy0 : ys.length = 0 := by omega
      have : ys = [] := List.eq_nil_of_length_eq_zero hy0
      subst this
      have hn0 : new = [] := List.eq_nil_of_length_eq_zero (by rw [hs.size]; rfl)
      subst hn0
      refine ⟨_, w, run_app_room (i := i) (new := []) (w' := w) hu hi1 hu2 hd2 (by simp) hsn (by rw [hi2]; exact hs.run w fun _ _ => rfl) (by cases b <;> rfl), ?_⟩
      have hAR : AR E w (Fn own R) ρ (.sl true e (rows ++ [])) (.slice b (rows.length + ([] : Rows).length) rows.length) none := by simpa using hx
      refine ⟨ρ, _, fun _ _ h => h, h.put (dis := dis) (oV := fun _ => none) (T := fun _ _ => False) hd (World.keptBut_refl _ _) (fun _ _ h => h.elim) (fun p B t' e => by cases e) (fun p p' B t t' e => by cases e) fun hK => .of (hAR.keep hK (fun _ _ h => h) fun B t e => by cases e)⟩
    | own _ _ te' B off len' cap' hc he' hl hsp =>
      cases hv
      rw [he] at he'
      cases he'
      obtain ⟨y, hy, hown⟩ := hq _ _ rfl
      have hone : ∀ v ∈ new, v.oneCell' = true := by
        intro v hv
        obtain ⟨k, hk, rfl⟩ := List.getElem_of_mem hv
        exact (hs.rel k (by rw [← hs.size]; exact hk) hk).oneCell
      have hnl : new.length = ys.length * te.size := by rw [hs.size, hfly]
      have hle : rows.length * te.size + new.length ≤ cap * te.size := by
        rw [hnl, ← hmul]; exact Nat.mul_le_mul_right _ hroom
      have hst := run_storeCells (P := P) new w B (off + rows.length * te.size) 0 hone (fun j hj => hsp _ (by omega) (by omega))
      have hk : w.keptBut (setRow w B (off + rows.length * te.size) new) (inT fun B' o' => B' = B ∧ off + rows.length * te.size ≤ o') := setRow_kept _ _ _ _ _ fun i _ => ⟨rfl, by omega⟩
      refine ⟨_, _, run_app_room (i := i) (new := new) hu hi1 hu2 hd2 hroom hsn (by rw [hi2]; exact hs.run w fun _ _ => rfl) (by simp only [hi2, add_none]; exact hst), ?_⟩
      let q' : Owner := if rows.length + ys.length < cap then some (B, off + (rows.length + ys.length) * te.size) else none
      have hq' : ∀ B' t, q' = some (B', t) → B' = B ∧ t = off + (rows.length + ys.length) * te.size := by
        intro B' t e
        simp only [q'] at e
        split at e <;> cases e
        exact ⟨rfl, rfl⟩
      refine ⟨ρ, _, fun _ _ h => h, h.put (dis := dis) (oV := own1 q') (T := fun B' o' => B' = B ∧ off + rows.length * te.size ≤ o') hd hk ?_ ?_ ?_ fun hK => AVR.own1 ?_⟩
      · rintro B' o' ⟨rfl, ho⟩
        exact ⟨y, [], _, hy, hown, ho⟩
      · intro p B' t' e
        obtain ⟨_, e⟩ := own1_some e
        obtain ⟨rfl, rfl⟩ := hq' _ _ e
        exact .inl ⟨y, [], _, hy, hown, by rw [hmul]; omega⟩
      · intro p p' B' t t' e e'
        rw [(own1_some e).1, (own1_some e').1]
      · -- the value
        have hF : ∀ j, j < (rows.length + ys.length) * te.size → rows.length * te.size ≤ j → ¬ Fn (ownSet (ownDis own dis) dst (own1 q')) R B (off + j) := by
          rintro j hj1 hj2 (hR | ⟨x', t', hx', hl'⟩)
          · exact (h.out _ _ _ hown).2 _ hR
          · have : ∀ {s p}, ownDis own dis (.tmp s p) = some (B, t') → False := by
              intro s p e
              have e2 := h.inj _ _ _ _ _ (ownDis_sub e) hown
              injection e2 with e3 e4
              subst e3
              simp [ownDis, hy] at e
            cases x' with
            | tmp s p =>
              simp only [ownSet] at hx'
              split at hx'
              · obtain ⟨_, e⟩ := own1_some hx'
                obtain ⟨_, rfl⟩ := hq' _ _ e
                omega
              · exact this hx'
            | self k => have := h.inj _ _ _ _ _ (show own (.self k) = _ from hx') hown; cases this
            | cell k j => have := h.inj _ _ _ _ _ (show own (.cell k j) = _ from hx') hown; cases this
        have hCR : CR E (setRow w B (off + rows.length * te.size) new) (Fn (ownSet (ownDis own dis) dst (own1 q')) R) (.slice e (rows ++ ys)) (.slice (some ⟨B, off, none⟩) (rows.length + ys.length) cap) := by
          have hkr : ∀ r ∈ rows, r.map Cell.kind = te.kinds := by
            rcases hrv with rfl | ⟨_, _, _, _, hk, _⟩
            · simp
            · exact hk
          obtain ⟨g, hg⟩ : ∃ g : Nat → Value, ∀ (i : Nat) (hi : i < rows.flatten.length), cell w B (off + i) = some (g i) ∧ ¬ Fn own R B (off + i) ∧ CR E w (Fn own R) rows.flatten[i] (g i) := by
            rcases hrv with rfl | ⟨B', off', g, hb, _, hg⟩
            · exact ⟨fun _ => undef, fun i hi => by simp at hi⟩
            · cases hb; exact ⟨g, hg⟩
          refine append_rows he hkr hs.kinds hroom hs.size (g := g) (fun i hi => ?_) fun i hi hi2 => ?_
          · obtain ⟨g1, g2, g3⟩ := hg i hi
            have := hK.old _ _ _ g1 g2
            exact ⟨this.1, this.2, g3.keep hK⟩
          · rw [hflr]
            obtain ⟨u, hu'⟩ := (hsp (off + rows.length * te.size + i) (by omega) (by omega)).1
            refine ⟨setRow_same new w B _ i hi2 ⟨u, hu'⟩, ?_, (hs.rel i hi hi2).keep hK⟩
            rw [Nat.add_assoc]
            exact hF _ (by omega) (by omega)
        by_cases hlt : rows.length + ys.length < cap
        · have : q' = some (B, off + (rows.length + ys.length) * te.size) := if_pos hlt
          rw [this]
          refine .own e _ te B off _ cap (by rw [this] at hCR; exact hCR) he hlt fun j hj1 hj2 => ?_
          obtain ⟨⟨u, hu'⟩, hcold⟩ := hsp j (by rw [hmul] at hj1; omega) hj2
          refine ⟨⟨u, ?_⟩, by rw [setRow_cold]; exact hcold⟩
          rw [setRow_other _ _ _ _ _ _ (by rw [hmul] at hj1; omega)]
          exact hu'
        · have hn : q' = none := if_neg hlt
          have hcc : rows.length + ys.length = cap := by omega
          rw [hn]
          rw [hn, hcc] at hCR
          rw [hcc]
          exact .full _ _ _ _ hCR
  · -- a new block
    have hdrew : ∀ B off, cell w.drew B off = cell w B off := fun _ _ => rfl
    obtain ⟨old, hold, hol, hoc⟩ : ∃ old : List Value, (Builtin.firstCells te.size rows.length (.slice b rows.length cap)).run P w.drew = .ok old.toArray w.drew ∧ old.length = rows.flatten.length ∧ ∀ (k : Nat) (h1 : k < rows.flatten.length) (h2 : k < old.length), CR E w (Fn own R) rows.flatten[k] old[k] := by
      obtain ⟨old, ho⟩ := src_slice (P := P) G he hx.inv_sl
      exact ⟨old, ho.run _ hdrew, ho.size, ho.rel⟩
    have hrun := run_app_grow (z := z) (ty0 := ty0) hu hi1 hi4 hu2 hd2 hroom hlim (by omega) hsn (by rw [hi2]; exact hold) (by rw [hi2]; exact hs.run _ hdrew)
    refine ⟨_, _, hrun, ?_⟩
    have hge := grownCap_ge w (rows.length + ys.length) cap e
    have hzsz : z.cells.size = te.size := by rw [hzs, hT.len]
    have hsize : (old.toArray ++ (new.toArray ++ Builtin.zeroCells z.cells (grownCap w (rows.length + ys.length) cap e - (rows.length + ys.length)))).size = grownCap w (rows.length + ys.length) cap e * te.size := by
      simp only [Array.size_append, List.size_toArray, size_zeroCells, hol, hs.size, hflr, hfly, hzsz]
      have : grownCap w (rows.length + ys.length) cap e * te.size = (rows.length + ys.length) * te.size + (grownCap w (rows.length + ys.length) cap e - (rows.length + ys.length)) * te.size := by
        rw [← Nat.add_mul]; congr 1; omega
      omega
    generalize hC : old.toArray ++ (new.toArray ++ Builtin.zeroCells z.cells (grownCap w (rows.length + ys.length) cap e - (rows.length + ys.length))) = C at hsize
    have hkeep : w.keptBut (w.drew.alloc (.cells C e)) (inT fun _ _ => False) := World.keptBut_alloc w.drew (.cells C e) _
    have hcell : ∀ j, j < C.size → cell (w.drew.alloc (.cells C e)) w.heap.size j = C[j]? := fun j hj => World.cell?_alloc_new w.drew C e j
    have hold' : ∀ (j : Nat) (hj : j < rows.flatten.length), C[j]? = some (old[j]'(by omega)) := by
      intro j hj
      rw [← hC, Array.getElem?_append_left (by rw [List.size_toArray]; omega)]
      simp [show j < old.length by omega]
    have hnew' : ∀ (j : Nat) (hj : j < ys.flatten.length), C[rows.flatten.length + j]? = some (new[j]'(by rw [hs.size]; exact hj)) := by
      intro j hj
      have h5 : j < new.length := by rw [hs.size]; exact hj
      rw [← hC, Array.getElem?_append_right (by rw [List.size_toArray]; omega), Array.getElem?_append_left (by rw [List.size_toArray, List.size_toArray]; omega), List.size_toArray, hol, Nat.add_sub_cancel_left]
      simp [h5]
    have hCs : (rows.length + ys.length) * te.size ≤ C.size := by rw [hsize]; exact Nat.mul_le_mul_right _ hge
    have hCR : ∀ F', Keeps w (Fn own R) (w.drew.alloc (.cells C e)) F' → (∀ o, o < (rows.length + ys.length) * te.size → ¬ F' w.heap.size o) →
        CR E (w.drew.alloc (.cells C e)) F' (.slice e (rows ++ ys)) (.slice (some ⟨w.heap.size, 0, none⟩) (rows.length + ys.length) (grownCap w (rows.length + ys.length) cap e)) := by
      intro F' hK hF
      have hkr : ∀ r ∈ rows, r.map Cell.kind = te.kinds := by
        rcases hrv with rfl | ⟨_, _, _, _, hk, _⟩
        · simp
        · exact hk
      refine append_rows he hkr hs.kinds hge hs.size (g := fun i => old.getD i undef) (fun i hi => ?_) fun i hi hi2 => ?_
      · have h6 : old.getD i undef = old[i]'(by omega) := getD_of (by omega)
        rw [Nat.zero_add, h6]
        exact ⟨by rw [hcell _ (by omega)]; exact hold' i hi, hF _ (by omega), (hoc i hi _).keep hK⟩
      · rw [Nat.zero_add]
        exact ⟨by rw [hcell _ (by omega)]; exact hnew' i hi, hF _ (by omega), (hs.rel i hi hi2).keep hK⟩
    by_cases hfull : rows.length + ys.length = grownCap w (rows.length + ys.length) cap e
    · refine h.newSlice (q := none) (B := w.heap.size) hd hkeep (Nat.le_refl _) (by simp) (fun _ _ e => by cases e) fun F' hK hF => ?_
      have := hCR F' hK fun o _ hc => by obtain ⟨t, e, _⟩ := hF o hc; cases e
      rw [← hfull] at this ⊢
      exact .full _ _ _ _ this
    · refine h.newSlice (q := some (w.heap.size, 0 + (rows.length + ys.length) * te.size)) (B := w.heap.size) hd hkeep (Nat.le_refl _) (by simp) (fun _ _ e => by cases e; rfl) fun F' hK hF => .own e _ te _ 0 _ _ (hCR F' hK fun o ho hc => ?_) he (by omega) fun j hj1 hj2 => ⟨⟨C[j]'(by omega), by rw [hcell _ (by omega)]; simp [show j < C.size by omega]⟩, World.frozen?_alloc_new ..⟩
      obtain ⟨t, e, hl⟩ := hF o hc
      cases e
      omega

/- SLICES WHOSE ELEMENTS MAY BE WRITTEN -/

/-- the owners behind a step that gives a slot a value that owns nothing, ends block b and makes block l -/
def ownSwap (own : OI → Owner) (dst : Option Nat) (b l : Nat) (s : Owner) : OI → Owner
  | .tmp t p => if dst = some t then none else own (.tmp t p)
  | .self k => if k = l then s else if k = b then none else own (.self k)
  | .cell k j => if k = l then none else if k = b then none else own (.cell k j)

theorem ownSwap_sub {dst : Option Nat} {b l : Nat} {s : Owner} {y : OI} {B t : Nat} (h : ownSwap own dst b l s y = some (B, t)) :
    (y = .self l ∧ s = some (B, t)) ∨ (own y = some (B, t) ∧ y ≠ .self b ∧ y ≠ .self l) := by
  cases y with
  | tmp u p =>
    simp only [ownSwap] at h
    split at h
    · cases h
    · exact .inr ⟨h, by simp, by simp⟩
  | self k =>
    simp only [ownSwap] at h
    split at h
    · rename_i e; subst e; exact .inl ⟨rfl, h⟩
    · rename_i e
      split at h
      · cases h
      · rename_i e2; exact .inr ⟨h, fun c => e2 (by injection c), fun c => e (by injection c)⟩
  | cell k j =>
    simp only [ownSwap] at h
    split at h
    · cases h
    · split at h
      · cases h
      · exact .inr ⟨h, by simp, by simp⟩

/-- a block of elements gives way to a new one -/
theorem Rel.swap (h : Rel E R ρ own N st a w) {dst : Option Nat} {v : AV} {val : Value} {w' : World} {b B' : Nat} {e : TypeId} {rows rows' : Rows} {s : Owner} {T : Places} {rd : List Nat} (hb : nth st.blk b = some (.arr e rows))
    (hd : ∀ d, dst = some d → d < N) (hk : w.keptBut w' (inT T)) (hT : ∀ B off, T B off → own (.self b) = some (B, 0))
    (hs : ∀ B t, s = some (B, t) → t = 0 ∧ (own (.self b) = some (B, 0) ∨ (w.heap.size ≤ B ∧ B < w'.heap.size)))
    (hV : Keeps w (Fn own R) w' (Fn (ownSwap own dst b st.blk.length s) R) → AVR E w' (Fn (ownSwap own dst b st.blk.length s) R) (ρ ++ [B']) v val (fun _ => none))
    (hnew : Keeps w (Fn own R) w' (Fn (ownSwap own dst b st.blk.length s) R) → BlkR E w' (Fn (ownSwap own dst b st.blk.length s) R) (ρ ++ [B']) (ownSwap own dst b st.blk.length s) st.blk.length (some (.arr e rows'))) :
    After E R ρ own N w (st.apply dst ⟨v, none, [(b, .dead)], [.arr e rows'], rd⟩) (a.put dst val) w' := by
  have hbl : b < st.blk.length := nth_lt hb
  have hρl : ρ.length = st.blk.length := h.rho
  have hlt : ∀ y B t', own y = some (B, t') → B < w.heap.size := fun y B t' e => (h.out _ _ _ e).1
  have hnl := h.blk st.blk.length
  rw [nth_ge (Nat.le_refl _)] at hnl
  refine ⟨ρ ++ [B'], _, fun b B' hb => by rw [nth_app_lt _ _ _ (nth_lt hb)]; exact hb, h.gen (own' := ownSwap own dst b st.blk.length s) T (fun t => dst = some t) (fun k => k = b ∨ k = st.blk.length) hk ?_ ?_ ?_ (by rw [size_put]; exact h.size) (by rw [defers_put]; exact h.defers) ?_ ?_ ?_ ?_ ?_ ?_⟩
  · intro B off hm
    exact ⟨.self b, 0, hT B off hm, Nat.zero_le _, .inl rfl⟩
  · intro y B t' hy
    rcases ownSwap_sub hy with ⟨rfl, e⟩ | ⟨e, _⟩
    · obtain ⟨rfl, h1 | h1⟩ := hs _ _ e
      · exact .inl ⟨_, 0, h1, Nat.le_refl _⟩
      · exact .inr h1
    · exact .inl ⟨y, t', e, Nat.le_refl _⟩
  · intro x y B t t' hx hy
    rcases ownSwap_sub hx with ⟨rfl, e⟩ | ⟨e, n1, n2⟩ <;> rcases ownSwap_sub hy with ⟨rfl, e'⟩ | ⟨e', n1', n2'⟩
    · rfl
    · exfalso
      obtain ⟨_, h1 | h1⟩ := hs _ _ e
      · exact n1' (h.inj _ _ _ _ _ e' h1)
      · have := hlt _ _ _ e'; omega
    · exfalso
      obtain ⟨_, h1 | h1⟩ := hs _ _ e'
      · exact n1 (h.inj _ _ _ _ _ e h1)
      · have := hlt _ _ _ e; omega
    · exact h.inj _ _ _ _ _ e e'
  · intro t hc
    have h1 : dst ≠ some t := hc
    refine ⟨by simp only [St.apply, disT, get_put, h1, if_false], ?_, fun p => by simp only [ownSwap, h1, if_false]⟩
    rw [getD_put a dst val t (by rw [h.size]; exact hd)]
    simp only [h1, if_false]
  · intro hK t hc
    have e1 : get (st.apply dst ⟨v, none, [(b, .dead)], [.arr e rows'], rd⟩).fr t = v := by simp only [St.apply, disT, get_put, hc, if_true]
    rw [e1, getD_put a dst val t (by rw [h.size]; exact hd)]
    simp only [hc, if_true]
    have e2 : (fun p => ownSwap own dst b st.blk.length s (.tmp t p)) = fun _ => none := funext fun p => by simp only [ownSwap, hc, if_true]
    rw [hc] at e2 hV hK
    rw [e2]
    exact hV hK
  · simp only [St.apply, writes, app_eq, List.length_append, List.length_singleton, setN_eq, List.length_set, hρl]
  · intro b B hb
    rw [nth_app_lt _ _ _ (nth_lt hb)]; exact hb
  · intro k hkb
    have k1 : k ≠ b := fun e => hkb (.inl e)
    have k2 : k ≠ st.blk.length := fun e => hkb (.inr e)
    refine ⟨?_, by simp only [ownSwap, k1, k2, if_false], fun j => by simp only [ownSwap, k1, k2, if_false]⟩
    simp only [St.apply, writes, app_eq]
    by_cases hk' : k < st.blk.length
    · rw [nth_app_lt _ _ _ (by rw [setN_eq, List.length_set]; exact hk'), nth_set _ _ _ _ (by rw [hb]; rfl), if_neg k1]
    · rw [nth_ge (l := st.blk) (by omega), nth_ge]
      simp only [List.length_append, List.length_singleton, setN_eq, List.length_set]
      omega
  · intro hK k hkb
    rcases hkb with rfl | rfl
    · simp only [St.apply, writes, app_eq]
      rw [nth_app_lt _ _ _ (by rw [setN_eq, List.length_set]; exact hbl), nth_set _ _ _ _ (by rw [hb]; rfl), if_pos rfl]
      have k2 : k ≠ st.blk.length := by omega
      exact ⟨by simp only [ownSwap, k2, if_true, if_false], fun j => by simp only [ownSwap, k2, if_true, if_false]⟩
    · have e1 : nth (st.apply dst ⟨v, none, [(b, .dead)], [.arr e rows'], rd⟩).blk st.blk.length = some (.arr e rows') := by
        simp only [St.apply, writes, app_eq]
        have := nth_app_len (setN st.blk b .dead) (.arr e rows')
        rwa [setN_eq, List.length_set, ← setN_eq] at this
      rw [e1]
      exact hnew hK

/-- two lists of cells, one behind the other -/
theorem two_parts {rows ys : Rows} {B : Nat} {g : Nat → Value} {new : List Value} (hnl : new.length = ys.flatten.length)
    (h1 : ∀ (i : Nat) (hi : i < rows.flatten.length), cell w B i = some (g i) ∧ cold w B i = false ∧ CR E w F rows.flatten[i] (g i))
    (h2 : ∀ (i : Nat) (hi : i < ys.flatten.length) (hi2 : i < new.length), cell w B (rows.flatten.length + i) = some new[i] ∧ cold w B (rows.flatten.length + i) = false ∧ CR E w F ys.flatten[i] new[i]) :
    ∀ (i : Nat) (hi : i < (rows ++ ys).flatten.length), ∃ v, cell w B i = some v ∧ cold w B i = false ∧ CR E w F (rows ++ ys).flatten[i] v := by
  intro i hi
  have hfl : (rows ++ ys).flatten = rows.flatten ++ ys.flatten := by simp
  have hi' := hi
  rw [hfl, List.length_append] at hi'
  by_cases hlt : i < rows.flatten.length
  · have e1 : (rows ++ ys).flatten[i] = rows.flatten[i] := by simp only [hfl]; exact List.getElem_append_left _
    rw [e1]
    exact ⟨_, h1 i hlt⟩
  · have h3 := h2 (i - rows.flatten.length) (by omega) (by omega)
    rw [show rows.flatten.length + (i - rows.flatten.length) = i by omega] at h3
    have e1 : (rows ++ ys).flatten[i] = ys.flatten[i - rows.flatten.length]'(by omega) := by simp only [hfl]; exact List.getElem_append_right (by omega)
    rw [e1]
    exact ⟨_, h3⟩

theorem mapp_core (G : Good P E) (h : Rel E R ρ own N st a w) {t t2 ty0 e : TypeId} {te : Ty} {b n : Nat} {vx vy : Value} {px : Owners} (hx : AVR E w (Fn own R) ρ (.one (.msl e b n)) vx px) (hut : P.underlying t = some (.slice e)) (he : E.tys e = some te) (hby : te.bytes ≤ 4096)
    {d2 : TypeDesc} (hu2 : P.underlying t2 = some d2) (hd2 : (∃ e2, d2 = .slice e2) ∨ d2 = .string) {rows ys : Rows} (hb : nth st.blk b = some (.arr e rows)) (hn : n = rows.length) (hlim : rows.length + ys.length ≤ 4294967296)
    {new : List Value} (hs : Src P E w (Fn own R) te.size te.kinds vy ys new) {dst : Option Nat} (hd : ∀ d, dst = some d → d < N) :
    ∃ val w', (Builtin.append_ #[t, t2] ty0 #[vx, vy]).run P w = .ok val w' ∧ After E R ρ own N w (st.apply dst ⟨.one (.msl e (lenN st.blk) (rows.length + ys.length)), none, [(b, .dead)], [.arr e (rows ++ ys)], [b]⟩) (a.put dst val) w' := by
  have hT := G.ty e te he
  have hpos := hT.pos
  obtain ⟨i, z, hi1, hi2, hi3, hi4, hi5⟩ := hT.info
  obtain ⟨hzs, _⟩ := zero_cell hi5
  have hsn := hs.len w
  have hfly := flat_len (even_of hT.len hs.kinds)
  have hdrew : ∀ B off, cell w.drew B off = cell w B off := fun _ _ => rfl
  have hbr := h.blk b
  rw [hb] at hbr
  -- what lies there
  have hcase : (rows = [] ∧ vx = .slice none 0 0) ∨ ∃ (B cap : Nat) (g : Nat → Value), nth ρ b = some B ∧ own (.self b) = some (B, 0) ∧ vx = .slice (some ⟨B, 0, none⟩) rows.length cap ∧ 0 < rows.length ∧ rows.length ≤ cap ∧ cap ≤ 9223372036854775807 ∧ (∀ r ∈ rows, r.map Cell.kind = te.kinds) ∧ (∀ j, cold w B j = false) ∧
      (∀ j, j < cap * te.size → (∃ v, cell w B j = some v) ∧ cold w B j = false) ∧ ∀ (j : Nat) (hj : j < rows.flatten.length), cell w B j = some (g j) ∧ cold w B j = false ∧ CR E w (Fn own R) rows.flatten[j] (g j) := by
    have hq := hx.get_one
    generalize px [] = q at hq
    cases hq with
    | mnil => exact .inl ⟨List.eq_nil_of_length_eq_zero hn.symm, rfl⟩
    | msl _ _ _ te' B cap hB he' h0 hnc hcm hsp =>
      rw [he] at he'
      cases he'
      rcases hbr with ⟨h1, _⟩ | ⟨B', te', h1, h2, _, h4, h5, h7, h6⟩
      · subst h1; simp at hn; omega
      · rw [hB] at h1
        cases h1
        rw [he] at h4
        cases h4
        refine .inr ⟨B, cap, fun j => if hj : j < rows.flatten.length then Classical.choose (h6 j hj) else undef, hB, h2, by rw [hn], by omega, by omega, hcm, h5, h7.2, hsp, fun j hj => ?_⟩
        simp only [hj, dif_pos]
        exact Classical.choose_spec (h6 j hj)
  have hkr : ∀ r ∈ rows, r.map Cell.kind = te.kinds := by
    rcases hcase with ⟨rfl, _⟩ | ⟨_, _, _, _, _, _, _, _, _, hk, _, _⟩
    · simp
    · exact hk
  have hflr := flat_len (even_of hT.len hkr)
  have hka : ∀ r ∈ rows ++ ys, r.map Cell.kind = te.kinds := fun r hr => by
    rcases List.mem_append.1 hr with h | h
    · exact hkr r h
    · exact hs.kinds r h
  have hmul : (rows.length + ys.length) * te.size = rows.length * te.size + ys.length * te.size := Nat.add_mul ..
  -- a new block
  have grow : ∀ (bo : Option Addr) (cap : Nat), vx = .slice bo rows.length cap → ¬ rows.length + ys.length ≤ cap → (∃ old : List Value, (Builtin.firstCells te.size rows.length (.slice bo rows.length cap)).run P w.drew = .ok old.toArray w.drew ∧ old.length = rows.flatten.length ∧ ∀ (k : Nat) (h1 : k < rows.flatten.length) (h2 : k < old.length), CR E w (Fn own R) rows.flatten[k] old[k]) →
      ∃ val w', (Builtin.append_ #[t, t2] ty0 #[vx, vy]).run P w = .ok val w' ∧ After E R ρ own N w (st.apply dst ⟨.one (.msl e (lenN st.blk) (rows.length + ys.length)), none, [(b, .dead)], [.arr e (rows ++ ys)], [b]⟩) (a.put dst val) w' := by
    rintro bo cap rfl hroom ⟨old, hold, hol, hoc⟩
    have hrun := run_app_grow (z := z) (ty0 := ty0) hut hi1 hi4 hu2 hd2 hroom hlim (by omega) hsn (by rw [hi2]; exact hold) (by rw [hi2]; exact hs.run _ hdrew)
    refine ⟨_, _, hrun, ?_⟩
    have hge := grownCap_ge w (rows.length + ys.length) cap e
    have hzsz : z.cells.size = te.size := by rw [hzs, hT.len]
    have hsize : (old.toArray ++ (new.toArray ++ Builtin.zeroCells z.cells (grownCap w (rows.length + ys.length) cap e - (rows.length + ys.length)))).size = grownCap w (rows.length + ys.length) cap e * te.size := by
      simp only [Array.size_append, List.size_toArray, size_zeroCells, hol, hs.size, hflr, hfly, hzsz]
      have : grownCap w (rows.length + ys.length) cap e * te.size = (rows.length + ys.length) * te.size + (grownCap w (rows.length + ys.length) cap e - (rows.length + ys.length)) * te.size := by
        rw [← Nat.add_mul]; congr 1; omega
      omega
    generalize hC : old.toArray ++ (new.toArray ++ Builtin.zeroCells z.cells (grownCap w (rows.length + ys.length) cap e - (rows.length + ys.length))) = C at hsize
    have hkeep : w.keptBut (w.drew.alloc (.cells C e)) (inT fun _ _ => False) := World.keptBut_alloc w.drew (.cells C e) _
    have hcell : ∀ j, j < C.size → cell (w.drew.alloc (.cells C e)) w.heap.size j = C[j]? := fun j hj => World.cell?_alloc_new w.drew C e j
    have hcold : ∀ j, cold (w.drew.alloc (.cells C e)) w.heap.size j = false := fun j => World.frozen?_alloc_new ..
    have hCs : (rows.length + ys.length) * te.size ≤ C.size := by rw [hsize]; exact Nat.mul_le_mul_right _ hge
    refine h.swap (B' := w.heap.size) (s := some (w.heap.size, 0)) hb hd hkeep (fun _ _ h => h.elim) (fun B t e => by cases e; exact ⟨rfl, .inr ⟨Nat.le_refl _, by simp⟩⟩) (fun hK => .of ?_) (fun hK => ?_)
    · rw [lenN_eq]
      exact .msl e _ _ te w.heap.size _ (by rw [← h.rho]; exact nth_app_len ρ _) he (by omega) hge (by have := grownCap_le_maxLen w (rows.length + ys.length) cap e (by unfold maxLen; omega); unfold maxLen at this; omega) fun j hj => ⟨⟨C[j]'(by omega), by rw [hcell _ (by omega)]; simp [show j < C.size by omega]⟩, hcold j⟩
    · refine .inr ⟨w.heap.size, te, by rw [← h.rho]; exact nth_app_len ρ _, by simp only [ownSwap, if_true], fun j => by simp only [ownSwap, if_true], he, hka, ⟨⟨C[0]'(by have := Nat.mul_le_mul_left (rows.length + ys.length) hpos; omega), by rw [hcell _ (by have := Nat.mul_le_mul_left (rows.length + ys.length) hpos; omega)]; simp⟩, hcold⟩, ?_⟩
      refine two_parts hs.size (g := fun i => old.getD i undef) (fun i hi => ?_) fun i hi hi2 => ?_
      · have h6 : old.getD i undef = old[i]'(by omega) := getD_of (by omega)
        rw [h6]
        refine ⟨?_, hcold i, (hoc i hi _).keep hK⟩
        rw [hcell _ (by omega), ← hC, Array.getElem?_append_left (by rw [List.size_toArray]; omega)]
        simp [show i < old.length by omega]
      · refine ⟨?_, hcold _, (hs.rel i hi hi2).keep hK⟩
        rw [hcell _ (by omega), ← hC, Array.getElem?_append_right (by rw [List.size_toArray]; omega), Array.getElem?_append_left (by rw [List.size_toArray, List.size_toArray]; omega), List.size_toArray, hol, Nat.add_sub_cancel_left]
        simp [hi2]
  rcases hcase with ⟨rfl, rfl⟩ | ⟨B, cap, g, hB, hself, rfl, h0, hnc, hcm, _, hcb, hsp, hg⟩
  · by_cases hy0 : ys.length = 0
    · have := List.eq_nil_of_length_eq_zero hy0
      subst this
      have hn0 : new = [] := List.eq_nil_of_length_eq_zero (by rw [hs.size]; rfl)
      subst hn0
      refine ⟨_, w, run_app_room (i := i) (new := []) (w' := w) hut hi1 hu2 hd2 (by simp) hsn (by rw [hi2]; exact hs.run w fun _ _ => rfl) rfl, ?_⟩
      refine h.swap (B' := 0) (s := none) hb hd (World.keptBut_refl _ (inT fun _ _ => False)) (fun _ _ h => h.elim) (fun B t e => by cases e) (fun hK => .of (.mnil _ _)) (fun hK => .inl ⟨rfl, ?_, fun j => ?_⟩)
      · simp only [ownSwap, if_true]
      · simp only [ownSwap, if_true]
    · exact grow none 0 rfl (fun hc => hy0 (by simpa using hc)) ⟨[], by simp [Builtin.firstCells], rfl, fun k h => by simp at h⟩
  · by_cases hroom : rows.length + ys.length ≤ cap
    · have hone : ∀ v ∈ new, v.oneCell' = true := by
        intro v hv
        obtain ⟨k, hk, rfl⟩ := List.getElem_of_mem hv
        exact (hs.rel k (by rw [← hs.size]; exact hk) hk).oneCell
      have hnl : new.length = ys.length * te.size := by rw [hs.size, hfly]
      have hle : rows.length * te.size + new.length ≤ cap * te.size := by
        rw [hnl, ← hmul]; exact Nat.mul_le_mul_right _ hroom
      have hst := run_storeCells (P := P) new w B (rows.length * te.size) 0 hone (fun j hj => hsp _ (by omega))
      have hk : w.keptBut (setRow w B (rows.length * te.size) new) (inT fun B' o' => B' = B) := setRow_kept _ _ _ _ _ fun i _ => rfl
      refine ⟨_, _, run_app_room (i := i) (new := new) hut hi1 hu2 hd2 hroom hsn (by rw [hi2]; exact hs.run w fun _ _ => rfl) (by simp only [hi2, add_none, Nat.zero_add]; exact hst), ?_⟩
      refine h.swap (B' := B) (s := some (B, 0)) hb hd hk (fun B' _ e => by rw [e]; exact hself) (fun B' t e => by cases e; exact ⟨rfl, .inl hself⟩) (fun hK => .of ?_) (fun hK => ?_)
      · rw [lenN_eq]
        exact .msl e _ _ te B cap (by rw [← h.rho]; exact nth_app_len ρ _) he (by omega) hroom hcm fun j hj => hK.still _ _ (hsp j hj)
      · refine .inr ⟨B, te, by rw [← h.rho]; exact nth_app_len ρ _, by simp only [ownSwap, if_true], fun j => by simp only [ownSwap, if_true], he, hka, ⟨(hK.still B 0 (hsp 0 (Nat.mul_pos (by omega) (by omega)))).1, fun j => by rw [setRow_cold]; exact hcb j⟩, ?_⟩
        refine two_parts hs.size (g := g) (fun i hi => ?_) fun i hi hi2 => ?_
        · obtain ⟨g1, g2, g3⟩ := hg i hi
          refine ⟨?_, by rw [setRow_cold]; exact g2, g3.keep hK⟩
          rw [setRow_other _ _ _ _ _ _ (by omega)]
          exact g1
        · rw [hflr]
          obtain ⟨⟨v, hv⟩, hc⟩ := hsp (rows.length * te.size + i) (by omega)
          exact ⟨setRow_same new w B _ i hi2 ⟨v, hv⟩, by rw [setRow_cold]; exact hc, (hs.rel i hi hi2).keep hK⟩
    · refine grow _ _ rfl hroom ⟨(List.range (rows.length * te.size)).map g, ?_, by simp [hflr], fun k h1 h2 => ?_⟩
      · simp only [Builtin.firstCells]
        exact run_loadCells w.drew ⟨B, 0, none⟩ _ g fun j hj => by
          rw [add_none, Nat.zero_add]
          exact (hg j (by omega)).1
      · simp only [List.getElem_map, List.getElem_range]
        exact (hg k h1).2.2

theorem mapp_sound (G : Good P E) (h : Rel E R ρ own N st a w) {t t2 ty0 e : TypeId} {b n : Nat} {vx vy : Value} {px : Owners} {y : AV} (hx : AVR E w (Fn own R) ρ (.one (.msl e b n)) vx px) (hy : AVR E w (Fn own R) ρ y vy (fun _ => none))
    {u : Upd} (hu : mappK E t t2 e b n st y some = some u) {dst : Option Nat} (hd : ∀ d, dst = some d → d < N) :
    ∃ val w', (Builtin.append_ #[t, t2] ty0 #[vx, vy]).run P w = .ok val w' ∧ After E R ρ own N w (st.apply dst u) (a.put dst val) w' := by
  unfold mappK at hu
  split at hu <;> try (cases hu; done)
  rename_i ty ty2 ht ht2
  have hsrc := (cond_none_some hu).1
  replace hu := (cond_none_some hu).2
  cases hde : ty.desc <;> simp only [hde] at hu <;> try (cases hu; done)
  rename_i e0
  cases he : E.tys e with
  | none => simp [he] at hu
  | some te =>
    simp only [he] at hu
    have hb0 := (cond_none_some hu).1
    replace hu := (cond_none_some hu).2
    rw [Bool.and_eq_true] at hb0
    have := Nat.eq_of_beq_eq_true hb0.1
    subst this
    have hby := Nat.le_of_ble_eq_true hb0.2
    split at hu <;> try (cases hu; done)
    rename_i e' rows o e'' ys hb
    have hb1 := (cond_none_some hu).1
    replace hu := (cond_none_some hu).2
    rw [Bool.and_eq_true] at hb1
    have := Nat.eq_of_beq_eq_true hb1.1
    subst this
    have := Nat.eq_of_beq_eq_true hb1.2
    subst this
    obtain ⟨hn, hu⟩ := cond_none_some hu
    have hn := Nat.eq_of_beq_eq_true hn
    obtain ⟨hlim, hu⟩ := cond_none_some hu
    cases hu
    have hlim : rows.length + ys.length ≤ 4294967296 := Nat.le_of_ble_eq_true hlim
    have hut := desc_slice (G.ty _ _ ht) hde
    obtain ⟨d2, hu2, hd2⟩ : ∃ d2, P.underlying t2 = some d2 ∧ ((∃ e2, d2 = .slice e2) ∨ d2 = .string) := by
      cases hd2 : ty2.desc <;> simp only [hd2, TD.source] at hsrc <;> try (cases hsrc; done)
      · exact ⟨_, desc_str (G.ty _ _ ht2) hd2, .inr rfl⟩
      · exact ⟨_, desc_slice (G.ty _ _ ht2) hd2, .inl ⟨_, rfl⟩⟩
    obtain ⟨new, hs⟩ := src_slice (P := P) G he hy.get_one.inv_sl
    exact mapp_core G h hx hut he hby hu2 hd2 hb hn hlim hs hd

/-- a new block of no elements -/
theorem thaw_sound (h : Rel E R ρ own N st a w) {t : TypeId} {x : AV} {vx : Value} {px : Owners} (hx : AVR E w (Fn own R) ρ x vx px) {u : Upd} (hu : thawK E t st x some = some u) {dst : Option Nat} (hd : ∀ d, dst = some d → d < N) :
    After E R ρ own N w (st.apply dst u) (a.put dst vx) w := by
  unfold thawK at hu
  split at hu <;> try (cases hu; done)
  split at hu <;> try (cases hu; done)
  rename_i e _
  split at hu <;> try (cases hu; done)
  cases hu
  have hvx : vx = .slice none 0 0 := by
    have := hx.get_one
    generalize px [] = q at this
    cases this; rfl
  subst hvx
  have hρl : ρ.length = st.blk.length := h.rho
  have hnl := h.blk st.blk.length
  rw [nth_ge (Nat.le_refl _)] at hnl
  refine ⟨ρ ++ [0], _, fun b B' hb => by rw [nth_app_lt _ _ _ (nth_lt hb)]; exact hb, h.gen (own' := ownSet own dst (fun _ => none)) (fun _ _ => False) (fun t => dst = some t) (fun k => k = st.blk.length) (World.keptBut_refl _ _) (fun _ _ h => h.elim) (fun y B t' hy => .inl ⟨y, t', ownSet_sub hy, Nat.le_refl _⟩)
    (fun x y B t t' hx hy => h.inj _ _ _ _ _ (ownSet_sub hx) (ownSet_sub hy)) (by rw [size_put]; exact h.size) (by rw [defers_put]; exact h.defers) ?_ ?_ ?_ ?_ ?_ ?_⟩
  · intro t hc
    have h1 : dst ≠ some t := hc
    refine ⟨by simp only [St.apply, disT, get_put, h1, if_false], ?_, fun p => by simp only [ownSet, h1, if_false]⟩
    rw [getD_put a dst _ t (by rw [h.size]; exact hd)]
    simp only [h1, if_false]
  · intro hK t hc
    have e1 : get (st.apply dst ⟨.one (.msl e (lenN st.blk) 0), none, [], [.arr e []], []⟩).fr t = .one (.msl e (lenN st.blk) 0) := by simp only [St.apply, disT, get_put, hc, if_true]
    rw [e1, getD_put a dst _ t (by rw [h.size]; exact hd)]
    simp only [hc, if_true]
    refine .one _ _ _ ?_ fun p _ => by simp only [ownSet, if_true]
    have e2 : ownSet own (some t) (fun _ => none) (.tmp t []) = none := by simp only [ownSet, if_true]
    rw [e2]
    exact .mnil _ _
  · simp only [St.apply, writes, app_eq, List.length_append, List.length_singleton, hρl]
  · intro b B hb
    rw [nth_app_lt _ _ _ (nth_lt hb)]; exact hb
  · intro k hkb
    refine ⟨?_, rfl, fun j => rfl⟩
    simp only [St.apply, writes, app_eq]
    by_cases hk' : k < st.blk.length
    · rw [nth_app_lt _ _ _ hk']
    · rw [nth_ge (l := st.blk) (by omega), nth_ge]
      simp; omega
  · intro hK k hkb
    subst hkb
    simp only [St.apply, writes, app_eq]
    rw [nth_app_len]
    exact .inl ⟨rfl, hnl.1, hnl.2⟩

/-- the elements are written no more -/
theorem freeze_sound (h : Rel E R ρ own N st a w) {x : AV} {vx : Value} {px : Owners} (hx : AVR E w (Fn own R) ρ x vx px) {u : Upd} (hu : freezeK st x some = some u) {dst : Option Nat} (hd : ∀ d, dst = some d → d < N) :
    After E R ρ own N w (st.apply dst u) (a.put dst vx) w := by
  unfold freezeK at hu
  split at hu <;> try (cases hu; done)
  rename_i e b n
  split at hu <;> try (cases hu; done)
  rename_i e' rows hb
  obtain ⟨hb1, hu1⟩ := cond_none_some hu
  clear hu
  have := Nat.eq_of_beq_eq_true hb1
  subst this
  obtain ⟨hn, hu2⟩ := cond_none_some hu1
  clear hu1
  have hn := Nat.eq_of_beq_eq_true hn
  cases hu2
  have hbr := h.blk b
  rw [hb] at hbr
  have hbl : b < st.blk.length := nth_lt hb
  have hsub : ∀ {y : OI} {B t : Nat}, ownSwap own dst b st.blk.length none y = some (B, t) → own y = some (B, t) ∧ y ≠ .self b := fun {y B t} hy => by
    rcases ownSwap_sub hy with ⟨_, e⟩ | ⟨e, n1, _⟩
    · cases e
    · exact ⟨e, n1⟩
  have hnl := h.blk st.blk.length
  rw [nth_ge (Nat.le_refl _)] at hnl
  refine ⟨ρ, _, fun _ _ h => h, h.gen (own' := ownSwap own dst b st.blk.length none) (fun _ _ => False) (fun t => dst = some t) (fun k => k = b) (World.keptBut_refl _ _) (fun _ _ h => h.elim) (fun y B t' hy => .inl ⟨y, t', (hsub hy).1, Nat.le_refl _⟩)
    (fun x y B t t' hx hy => h.inj _ _ _ _ _ (hsub hx).1 (hsub hy).1) (by rw [size_put]; exact h.size) (by rw [defers_put]; exact h.defers) ?_ ?_ ?_ (fun _ _ h => h) ?_ ?_⟩
  · intro t hc
    have h1 : dst ≠ some t := hc
    refine ⟨by simp only [St.apply, disT, get_put, h1, if_false], ?_, fun p => by simp only [ownSwap, h1, if_false]⟩
    rw [getD_put a dst vx t (by rw [h.size]; exact hd)]
    simp only [h1, if_false]
  · intro hK t hc
    subst hc
    have e1 : get (st.apply (some t) ⟨.one (.sl false e rows), none, [(b, .dead)], [], [b]⟩).fr t = .one (.sl false e rows) := by simp only [St.apply, disT, get_put, if_true]
    rw [e1, getD_put a _ vx t (by rw [h.size]; exact hd)]
    simp only [if_true]
    have e2 : (fun p => ownSwap own (some t) b st.blk.length none (.tmp t p)) = fun _ => none := funext fun p => by simp only [ownSwap, if_true]
    rw [e2]
    refine .of (.sl _ _ _ ?_)
    have hq := hx.get_one
    generalize px [] = q at hq
    cases hq with
    | mnil =>
      have := List.eq_nil_of_length_eq_zero hn.symm
      subst this
      exact .empty _ _ _
    | msl _ _ _ te' B cap hB he' h0 hnc hcm hsp =>
      rcases hbr with ⟨h1, _⟩ | ⟨B', te, h1, h2, h3, h4, h5, h7, h6⟩
      · subst h1; simp at hn; omega
      · rw [hB] at h1
        cases h1
        rw [hn]
        refine .slice e rows te B 0 cap (fun j => if hj : j < rows.flatten.length then Classical.choose (h6 j hj) else undef) h4 h5 (by omega) (fun i hi => ?_) fun i hi => ?_
        · simp only [hi, dif_pos, Nat.zero_add]
          refine ⟨(Classical.choose_spec (h6 i hi)).1, ?_⟩
          rintro (hR | ⟨y, t', hy, ht'⟩)
          · exact (h.out _ _ _ h2).2 _ hR
          · obtain ⟨e3, e4⟩ := hsub hy
            exact e4 (h.inj _ _ _ _ _ e3 h2)
        · simp only [hi, dif_pos]
          exact (Classical.choose_spec (h6 i hi)).2.2.keep hK
  · simp only [St.apply, writes, app_eq, List.append_nil, setN_eq, List.length_set]; exact h.rho
  · intro k hkb
    refine ⟨?_, ?_, fun j => ?_⟩
    · simp only [St.apply, writes, app_eq, List.append_nil]
      rw [nth_set _ _ _ _ (by rw [hb]; rfl), if_neg hkb]
    · simp only [ownSwap, hkb, if_false]
      split
      · rename_i e; subst e; exact hnl.1.symm
      · rfl
    · simp only [ownSwap, hkb, if_false]
      split
      · rename_i e; subst e; exact (hnl.2 j).symm
      · rfl
  · intro hK k hkb
    subst hkb
    simp only [St.apply, writes, app_eq, List.append_nil]
    rw [nth_set _ _ _ _ (by rw [hb]; rfl), if_pos rfl]
    have k2 : k ≠ st.blk.length := by omega
    exact ⟨by simp only [ownSwap, k2, if_true, if_false], fun j => by simp only [ownSwap, k2, if_true, if_false]⟩

end Go.Abs
